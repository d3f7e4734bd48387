/- A part of the proof of SchedDepth. Conditions: none. -/
import Derived.Test.YtmkncmffaaninaaGreatPAJ
import Derived.Test.YtmkncmffaaninaaGreatPAI
import Derived.Test.YtmkncmffaaninaaGreatPAG
set_option linter.unusedVariables false
set_option linter.unusedSimpArgs false
set_option linter.unusedSectionVars false
open Int renaming toNat_natCast → ya,natCast_nonneg → yk,natCast_zero → ys,lt_irrefl → yO,reduceToNat → y7,le_refl → yad
open List renaming length_cons → yb,getD_eq_getElem?_getD → yd,getElem?_eq_getElem → ye,mem_cons_self → yf,length_append → yg,mem_cons_of_mem → yh,getElem?_eq_none → yi,take_of_length_le → yl,length_nil → ym,replicate → yo,mem_cons → yp,all_eq_true → yq,getElem_mem → yr,ext_getElem? → yt,append_assoc → yu,count_cons → yv,drop_eq_getElem_cons → yw,mem_append → yx,singleton_append → yy,map_set → yz,getElem?_eq_some_iff → yA,length_reverse → yB,getElem?_replicate → yC,getElem?_set → yG,drop_length → yH,nil_append → yI,find?_cons → yJ,length_set → yK,mem_singleton → yL,drop_zero → yM,getElem?_cons_zero → yN,map_cons → yP,sum_cons → yQ,length_map → yT,foldl_cons → yU,mem_of_getElem? → yV,take_left' → yW,map_append → yX,getD_cons_zero → yY,map_replicate → y3,all_cons → y5,cons_append → y8,all_map → y9,count_set → yab,set_set → yaf,map → yag,range → yah
open Bool renaming and_eq_true → yc,false_eq_true → yD,not_eq_true' → yE,or_eq_false_iff → yS,true_and → y4,not_eq_true → y6,eq_iff_iff → yaa
open Option renaming bind_some → yn,getD_some → yac
open Nat renaming zero_add → yF,add_zero → yR,zero_le → yZ,mul_one → y2,le_refl → yae
namespace AC
open Go Go.A Go.A.Lex
theorem zgD {f : PFunc} (h : zlx f = true) : 1 ≤ f.blocks.length ∧ f.blocks.length ≤ 64 ∧ f.params.length ≤ 16 ∧ zh8 f ≤ 512 ∧ ∀ b ∈ f.blocks,zqP b = true:=by
 unfold zlx at h
 simp only [yc,yE,yS,decide_eq_false_iff_not,yq] at h
 exact ⟨by omega,by omega,by omega,by omega,h.2⟩
theorem zsB {l : List Int} (h : zfG l = true) : l.length ≤ 64:=by
 unfold zfG at h
 simp only [yc,decide_eq_true_eq] at h
 exact h.1
theorem zqF {b : PBlock} (h : zqP b = true) : (∀ p ∈ b.phis,p.args.length ≤ 64) ∧ ∀ o ∈ b.ops,o.args.length ≤ 64:=by
 unfold zqP at h
 simp only [yc,yq] at h
 refine ⟨fun p hp => ?_,fun o ho => ?_⟩
 ·have:=h.1 p hp
  unfold zhh at this
  simp only [yc] at this
  exact zsB this.2.2
 ·have:=h.2.1 o ho
  unfold zk2 at this
  simp only [yc] at this
  exact zsB this.2
theorem zoZ : ∀ (l : List PPhi),(∀ p ∈ l,p.args.length ≤ 64) → (zaj l).length ≤ 64 * l.length
 | [],_ => by simp [zaj]
 | p :: l,h => by
   have ih:=zoZ l fun q hq => h q (yh _ hq)
   have h1:=h p yf
   have hpl : ∀ (l : List Int) (j : Nat),(zH p j l).length = l.length:=by
    intro l
    induction l with
    | nil => intro j; rfl
    | cons x l ih => intro j; rw [zH,yb,ih,yb]
   have e : zaj (p :: l) = zfN p ++ zaj l:=rfl
   have e2 : (zfN p).length = p.args.length:=hpl _ 0
   rw [e,yg,e2,yb]
   omega
theorem zkN (o : POp) (i at' : Int) : ∀ (l : List (Int × Int)) (k : Nat),(zO o i at' k l).length = l.length
 | [],_ => rfl
 | s :: r,k => by rw [zO,yb,zkN o i at' r,yb]
theorem zqw (i : Int) : ∀ (l : List POp) (k : Nat),(∀ o ∈ l,o.args.length ≤ 64) → (zu i k l).length ≤ 64 * l.length
 | [],_,_ => by simp [zu]
 | o :: l,k,h => by
   have ih:=zqw i l (k + 1) fun q hq => h q (yh _ hq)
   have h1:=h o yf
   have h2:=zmP o
   have e2 : (zkQ o i (k : Int)).length = (zaW o).length:=zkN _ _ _ _ _
   rw [zu,yg,e2,yb]
   omega
theorem zoY (f : PFunc) : ∀ (l : List PBlock) (k : Nat),(∀ b ∈ l,zqP b = true) → (zaC f k l).length ≤ 64 * (l.map fun b => b.phis.length + b.ops.length).sum + l.length
 | [],_,_ => by simp [zaC]
 | b :: l,k,h => by
   have ih:=zoY f l (k + 1) fun q hq => h q (yh _ hq)
   obtain ⟨h1,h2⟩:=zqF (h b yf)
   have e1:=zoZ b.phis h1
   have e2:=zqw (k : Int) b.ops 0 h2
   have e3 : (zbr f k b).length ≤ 1:=by
    unfold zbr
    split <;> simp
   rw [zaC,zgQ,yg,yg,yg,yP,yQ,yb]
   omega
theorem zBo {f : PFunc} (h : zlx f = true) : (zfb f).length ≤ 40000:=by
 obtain ⟨h1,h2,h3,h4,h5⟩:=zgD h
 have:=zoY f f.blocks 0 h5
 unfold zh8 at h4
 unfold zfb
 omega
theorem zCc {f : PFunc} (h : zlx f = true) : (zL f).length ≤ 600:=by
 obtain ⟨h1,h2,h3,h4,h5⟩:=zgD h
 have key : ∀ (l : List PBlock) (k : Nat),(zW k l).length ≤ (l.map fun b => b.phis.length + b.ops.length).sum:=by
  intro l
  induction l with
  | nil => intro k; simp [zW]
  | cons b l ih =>
    intro k
    have:=zio (k : Int) b.ops 0
    have:=ih (k + 1)
    rw [zW,yg,yg,yP,yQ]
    simp only [zcL,yT]
    omega
 have:=key f.blocks 0
 unfold zh8 at h4
 rw [zL,yg,zge]
 omega
theorem zkI (pred : List (List Int)) (reach : List Bool) : ∀ (l : List PBlock) (i : Nat),zbn pred reach i l = true → ∀ b ∈ l,∃ j,zjE pred reach j b = true
 | [],_,_ => by simp
 | b :: l,i,h => by
   rw [zbn,yc] at h
   intro c hc
   rcases yp.1 hc with rfl | hc
   ·exact ⟨i,h.1⟩
   ·exact zkI pred reach l (i + 1) h.2 c hc
theorem zAF {f : PFunc} (h : zf5 f = true) : ∀ b ∈ f.blocks,zjc b:=fun b hb => by
 unfold zf5 at h
 rw [yc] at h
 obtain ⟨j,hj⟩:=zkI _ _ _ _ h.2 b hb
 unfold zjE at hj
 simp only [yc,yq] at hj
 refine ⟨fun p hp => ?_,fun o _ => zmP o⟩
 have:=hj.2.2 p hp
 unfold zhP at this
 simp only [yc,decide_eq_true_eq] at this
 exact this.2
def zeZ (f : PFunc) : List Use:=(zfb f).map zV
def z6 (f : PFunc) (level : Int) : Int :=
 if level < 0 ∨ 2 < level then 1 else if zlx f = false then 4 else if zf5 f = false then 5 else if zfm f level = false then 6 else
 if zfs (zL f) 0 (zL f) = false then 7 else if (zeZ f).all (zjt (zL f)) = false then 7 else if (zeZ f).all (sameShape (zL f)) = false then 6 else
 if (zeZ f).all (zgf (zL f) (zeS (zm f) 0)) = false then 7 else 0
theorem zDW {f : PFunc} {level : Int} (h : zfm f level = true) : ¬ f.ret = 0:=by
 unfold zfm at h
 rw [yc] at h
 have:=zdq h.1
 omega
set_option maxRecDepth 10000 in
theorem zr1 (f : PFunc) (hf : okF f) (level : Int) : call T 30 [zhc f,vI level] [] = some (vI (z6 f level),[]):=by
 rw [ze (fn:=zi) rfl]
 by_cases c1 : level < 0
 ·have e : z6 f level = 1:=by unfold z6; rw [if_pos (.inl c1)]
  rw [e]
  simp -implicitDefEqProofs only [go_sem,zi,eq_true c1]
 by_cases c2 : 2 < level
 ·have e : z6 f level = 1:=by unfold z6; rw [if_pos (.inr c2)]
  have c2' : level > 2:=c2
  rw [e]
  simp -implicitDefEqProofs only [go_sem,zi,c1,eq_true c2']
 have c2' : ¬ level > 2:=c2
 have hlv : level = 0 ∨ level = 1 ∨ level = 2:=by omega
 have hM:=zuC f hf
 cases m : zlx f
 ·have e : z6 f level = 4:=by unfold z6; rw [if_neg (by omega),if_pos m]
  simp -implicitDefEqProofs only [go_sem,m] at hM
  rw [e]
  simp -implicitDefEqProofs only [go_sem,zi,c1,c2',hM]
 simp -implicitDefEqProofs only [go_sem,m] at hM
 have hS:=zrQ f hf
 cases s : zf5 f
 ·have e : z6 f level = 5:=by unfold z6; rw [if_neg (by omega),if_neg (by simp [m]),if_pos s]
  simp -implicitDefEqProofs only [go_sem,s] at hS
  rw [e]
  simp -implicitDefEqProofs only [go_sem,zi,c1,c2',hM,hS]
 simp -implicitDefEqProofs only [go_sem,s] at hS
 have hT:=zrh f hf level hlv
 cases t : zfm f level
 ·have e : z6 f level = 6:=by unfold z6; rw [if_neg (by omega),if_neg (by simp [m]),if_neg (by simp [s]),if_pos t]
  simp -implicitDefEqProofs only [go_sem,t] at hT
  rw [e]
  simp -implicitDefEqProofs only [go_sem,zi,c1,c2',hM,hS,hT]
 simp -implicitDefEqProofs only [go_sem,t] at hT
 obtain ⟨n1,n64,np,nsz,nb⟩:=zgD m
 have hdl:=zCc m
 have hul:=zBo m
 have hD:=zsu f hf (by unfold zh8 at nsz; omega)
 have hol : ∀ b ∈ f.blocks,b.ops.length ≤ 1048576:=fun b hb => by
  have h1 : b.phis.length + b.ops.length ≤ (f.blocks.map fun b => b.phis.length + b.ops.length).sum:=by
   have key : ∀ l : List PBlock,b ∈ l → b.phis.length + b.ops.length ≤ (l.map fun b => b.phis.length + b.ops.length).sum:=by
    intro l
    induction l with
    | nil => intro h; cases h
    | cons a l ih =>
      intro h
      simp only [yP,yQ]
      rcases yp.1 h with rfl | h
      ·omega
      ·have:=ih h; omega
   exact key _ hb
  unfold zh8 at nsz
  omega
 have hU:=ztw f hf (zDW t) (zAF s) hol (by omega)
 have hUl : (zeZ f).length ≤ 4294967296:=by unfold zeZ; rw [yT]; omega
 have hUe : (zfb f).map zV = zeZ f:=rfl
 rw [hUe] at hU
 have h0:=fun a0 a1 a3 a6 a7 a8 a9 a10 a11 a12 a13 a14 a15 a16 a17 a18 a19 a20 a21 a22 a23 a24 a25 a26 => zwC f hf (zL f) (by omega) (zL f).length 0 a0 a1 a3 a6 a7 a8 a9 a10 a11 a12 a13 a14 a15 a16 a17 a18 a19 a20 a21 a22 a23 a24 a25 a26 (by omega) (by omega)
 have h1:=fun a0 a1 a3 a5 a8 a9 a10 a11 a12 a13 a14 a15 a16 a17 a18 a19 a20 a21 a22 a23 a24 a25 a26 => zv4 f hf (zL f) (zeZ f) (by omega) hUl (zeZ f).length 0 a0 a1 a3 a5 a8 a9 a10 a11 a12 a13 a14 a15 a16 a17 a18 a19 a20 a21 a22 a23 a24 a25 a26 (by omega) (by omega)
 simp only [ys,yM] at h0 h1
 simp -implicitDefEqProofs only [go_sem] at hD hU
 have k0 : ∀ x,(if level < 0 ∨ 2 < level then (1 : Int) else if zlx f = false then 4 else if zf5 f = false then 5 else if zfm f level = false then 6 else x) = x:=fun x => by
  rw [if_neg (by omega),if_neg (by simp [m]),if_neg (by simp [s]),if_neg (by simp [t])]
 have e0 : z6 f level = (if zfs (zL f) 0 (zL f) = false then 7 else if (zeZ f).all (zjt (zL f)) = false then 7 else if (zeZ f).all (sameShape (zL f)) = false then 6 else
  if (zeZ f).all (zgf (zL f) (zeS (zm f) 0)) = false then 7 else 0):=by unfold z6; exact k0 _
 rw [e0]
 cases d0 : zfs (zL f) 0 (zL f)
 ·simp -implicitDefEqProofs only [go_sem,zib,d0,yD] at h0
  simp -implicitDefEqProofs only [go_sem,zi,c1,c2',hM,hS,hT,hD,h0]
 simp -implicitDefEqProofs only [go_sem,zib,d0] at h0
 cases d1 : (zeZ f).all (zjt (zL f))
 ·simp -implicitDefEqProofs only [go_sem,zib,d1,yD] at h1
  simp -implicitDefEqProofs only [go_sem,zi,c1,c2',hM,hS,hT,hD,h0,hU,h1]
 simp -implicitDefEqProofs only [go_sem,zib,d1] at h1
 have hall : ∀ u ∈ zeZ f,zjt (zL f) u = true:=yq.1 d1
 have h2:=fun a0 a1 a3 a5 a7 a9 a10 a11 a12 a13 a14 a15 a16 a17 a18 a19 a20 a21 a22 a23 a24 a25 a26 => zv5 f hf (zL f) (zeZ f) (by omega) hUl hall (zeZ f).length 0 a0 a1 a3 a5 a7 a9 a10 a11 a12 a13 a14 a15 a16 a17 a18 a19 a20 a21 a22 a23 a24 a25 a26 (by omega) (by omega)
 simp only [ys,yM] at h2
 cases d2 : (zeZ f).all (sameShape (zL f))
 ·simp -implicitDefEqProofs only [go_sem,zib,d2,yD] at h2
  simp -implicitDefEqProofs only [go_sem,zi,c1,c2',hM,hS,hT,hD,h0,hU,h1,h2]
 simp -implicitDefEqProofs only [go_sem,zib,d2] at h2
 have hg : zax f = true:=by
  unfold zf5 at s
  rw [yc] at s
  exact s.1
 have hm:=zfi hg
 have hsl : (zm f).length = f.blocks.length:=by simp [zm]
 have hO:=zqt f hf
 have hTr:=ztP (zm f) (zh6 hf) hm 0 (by omega)
 have htl : (zeS (zm f) 0).length ≤ 4294967296:=by simp [zeS]; omega
 obtain ⟨r,h3⟩:=zxd f hf (zL f) (zeZ f) (by omega) hUl hall (zeS (zm f) 0) htl (.sl ((zm f).map rl)) (.sl ((zM (zm f)).map rl)) (zeZ f).length 0 (by omega) (by omega)
 simp only [ys,yM] at h3
 simp -implicitDefEqProofs only [go_sem,zgo,hg] at hO
 simp -implicitDefEqProofs only [go_sem] at hTr
 cases d3 : (zeZ f).all (zgf (zL f) (zeS (zm f) 0))
 ·simp -implicitDefEqProofs only [go_sem,zib,d3,yD] at h3
  simp -implicitDefEqProofs only [go_sem,zi,c1,c2',hM,hS,hT,hD,h0,hU,h1,h2,hO,hTr,h3]
 ·simp -implicitDefEqProofs only [go_sem,zib,d3] at h3
  simp -implicitDefEqProofs only [go_sem,zi,c1,c2',hM,hS,hT,hD,h0,hU,h1,h2,hO,hTr,h3]
end AC
namespace AC
open Dm
section
variable {succ : List (List Int)} {root : Nat} {O : Int → Prop} {pos : Int → Nat} {t : List Int} (Q : TreeOf succ root O pos t)
include Q
theorem zmB : (root : Int) < (succ.length : Int):=(Q.rng _ Q.ord.rt).2
theorem zpF {x : Int} (hx : 0 ≤ x) : tr (t.set root (-1)) x = if x = (root : Int) then -1 else tr t x:=by
 have:=zvn (t:=t) (x:=(root : Int)) (-1) ⟨by omega,by rw [Q.len]; exact zmB Q⟩ hx
 rwa [ya] at this
theorem zFP {x : Int} (h : O x) : tf t x ≠ -2:=zCN Q.ord Q.inv Q.st h
theorem ztu {x : Int} (h : O x) (hx : x ≠ (root : Int)) : tr (t.set root (-1)) x = tf t x ∧ O (tf t x) ∧ pos (tf t x) < pos x ∧ tf t x ≠ -1:=by
 have rx:=Q.rng x h
 obtain ⟨h1,h2⟩:=Q.inv.par x hx (zFP Q h)
 have h3:=zi7 Q.ord Q.inv h1
 exact ⟨by rw [zpF Q rx.1,if_neg hx,zud rx.1],h3,h2,by have:=(Q.rng _ h3).1; omega⟩
theorem zyL {x : Int} (h : ¬ O x) (h0 : 0 ≤ x) : tr (t.set root (-1)) x = -2:=by
 rw [zpF Q h0,if_neg (by rintro rfl; exact h Q.ord.rt),← zud h0]
 exact Q.inv.out x h
theorem zkG : (t.set root (-1)).length = succ.length:=by simp [Q.len]
theorem zFs : ∀ (r : Nat) (x k : Int),O x → pos x < r → ∃ m,zX (t.set root (-1)) r k x = some m ∧ k ≤ m:=by
 intro r
 induction r with
 | zero => intro x k _ h; omega
 | succ r ih =>
   intro x k hx hp
   have rx:=Q.rng x hx
   rw [zX,if_neg (by omega),if_neg (by rw [zkG Q]; omega)]
   by_cases c : x = (root : Int)
   ·rw [if_pos (by rw [zpF Q rx.1,if_pos c])]
    exact ⟨k,rfl,yad _⟩
   ·obtain ⟨h1,h2,h3,h4⟩:=ztu Q hx c
    rw [h1,if_neg h4]
    obtain ⟨m,m1,m2⟩:=ih _ (k + 1) h2 (by omega)
    exact ⟨m,m1,by omega⟩
theorem zpL {x : Int} (h : O x) : 0 ≤ zE (t.set root (-1)) x:=by
 obtain ⟨m,h1,h2⟩:=zFs Q (t.set root (-1)).length x 0 h (by rw [zkG Q]; exact Q.low x h)
 rw [zE,h1]
 exact h2
theorem zEO {x : Int} (h : ¬ O x) : zE (t.set root (-1)) x < 0:=by
 by_cases c : 0 ≤ zE (t.set root (-1)) x
 ·have r:=zgZ c
  have e:=zyL Q h r.1
  by_cases z : zE (t.set root (-1)) x = 0
  ·have:=zg5 z
   omega
  ·have:=zfe c (by omega)
   rw [e] at this
   have h2:=zgZ (t:=t.set root (-1)) (a:=-2) (by omega)
   omega
 ·omega
theorem zxZ (x : Int) : 0 ≤ zE (t.set root (-1)) x ↔ O x:=by
 by_cases h : O x
 ·exact ⟨fun _ => h,fun _ => zpL Q h⟩
 ·exact ⟨fun c => absurd c (by have:=zEO Q h; omega),fun c => absurd c h⟩
omit Q in
theorem znI {tree : List Int} : ∀ (l : List Int) (k m : Nat),(∀ j x,l[j]? = some x → x ≠ -2 → 0 ≤ zE tree ((k + j : Nat) : Int)) → zaD tree k m l = some (m + l.count (-1))
 | [],_,_,_ => by simp [zaD]
 | x :: l,k,m,h => by
   have hr:=fun m' => znI l (k + 1) m' fun j y hj hy => by
    have:=h (j + 1) y (by simpa using hj) hy
    rwa [show k + (j + 1) = k + 1 + j by omega] at this
   rw [zaD]
   by_cases c : x = -2
   ·rw [if_pos c,hr m,c]
    rw [yv]
    simp
   ·have h0:=h 0 x rfl c
    rw [yR] at h0
    rw [if_neg c,if_neg (by omega),hr _,yv]
    by_cases d : x = -1
    ·rw [if_pos d]
     simp [d]
     omega
    ·rw [if_neg d]
     simp [d]
theorem zv0 : zgp (t.set root (-1)) = true:=by
 have h:=znI (tree:=t.set root (-1)) (t.set root (-1)) 0 0 fun j x hj hx => by
  rw [yF,zxZ Q]
  by_cases c : O (j : Int)
  ·exact c
  ·have:=zyL Q c (by omega)
   unfold tr at this
   rw [ya,yd,hj] at this
   exact absurd this hx
 have hlt : root < t.length:=by have:=zmB Q; rw [Q.len]; omega
 have h0 : t.count (-1) = 0:=by
  rw [List.count_eq_zero]
  intro hm
  obtain ⟨j,hj⟩:=List.mem_iff_getElem?.1 hm
  have e : tf t (j : Int) = -1:=by
   rw [zud (by omega)]
   unfold tr
   rw [ya,yd,hj]
   rfl
  have hp : tf t (j : Int) ≠ -2:=by rw [e]; omega
  by_cases c : (j : Int) = (root : Int)
  ·rw [c,Q.inv.rt] at e
   omega
  ·exact (ztu Q (zi7 Q.ord Q.inv hp) c).2.2.2 e
 have h1 : (t.set root (-1)).count (-1) = 1:=by
  rw [yab hlt,h0]
  simp
 unfold zgp
 rw [h,h1]
 rfl
theorem zn9 {y x : Int} (h : Anc (root : Int) (tf t) y x) (hx : O x) : O y ∧ (y = x ∨ zE (t.set root (-1)) y < zE (t.set root (-1)) x):=by
 induction h with
 | refl => exact ⟨hx,.inl rfl⟩
 | step n h ih =>
   rename_i x
   obtain ⟨h1,h2,h3,h4⟩:=ztu Q hx n
   obtain ⟨k1,k2⟩:=ih h2
   have:=zfe (zpL Q hx) (by rw [h1]; exact h4)
   rw [h1] at this
   refine ⟨k1,.inr ?_⟩
   rcases k2 with k2 | k2
   ·rw [k2]; omega
   ·omega
theorem znM : ∀ (r : Nat) (a b : Int),O a → O b → zE (t.set root (-1)) a + zE (t.set root (-1)) b ≤ r → O (zit (t.set root (-1)) r a b) ∧ ∀ y,Anc (root : Int) (tf t) y (zit (t.set root (-1)) r a b) ↔ Anc (root : Int) (tf t) y a ∧ Anc (root : Int) (tf t) y b:=by
 have rt : ∀ a,O a → zE (t.set root (-1)) a = 0 → a = (root : Int):=fun a ha h => by
  by_cases c : a = (root : Int)
  ·exact c
  ·obtain ⟨h1,_,_,h4⟩:=ztu Q ha c
   rw [zg5 h] at h1
   exact absurd h1.symm h4
 intro r
 induction r with
 | zero =>
   intro a b ha hb h
   have h1:=zpL Q ha
   have h2:=zpL Q hb
   have e1:=rt a ha (by omega)
   have e2:=rt b hb (by omega)
   subst e1 e2
   exact ⟨ha,fun y => ⟨fun h => ⟨h,h⟩,fun h => h.1⟩⟩
 | succ r ih =>
   intro a b ha hb h
   have h1:=zpL Q ha
   have h2:=zpL Q hb
   rw [zit]
   by_cases c : a = b
   ·subst c
    rw [if_pos rfl]
    exact ⟨ha,fun y => ⟨fun h => ⟨h,h⟩,fun h => h.1⟩⟩
   ·rw [if_neg c]
    by_cases d : zE (t.set root (-1)) b ≤ zE (t.set root (-1)) a
    ·rw [if_pos d]
     have hr : a ≠ (root : Int):=by
      rintro rfl
      have e0:=zj4 (t:=t.set root (-1)) (a:=(root : Int)) (by omega) (by rw [zkG Q]; exact zmB Q) (by rw [zpF Q (by omega),if_pos rfl])
      exact c (rt b hb (by omega)).symm
     obtain ⟨k1,k2,k3,k4⟩:=ztu Q ha hr
     have ds:=zfe h1 (by rw [k1]; exact k4)
     rw [k1] at ds ⊢
     obtain ⟨q1,q2⟩:=ih _ b k2 hb (by omega)
     refine ⟨q1,fun y => ?_⟩
     rw [q2 y]
     constructor
     ·rintro ⟨w1,w2⟩
      exact ⟨.step hr w1,w2⟩
     ·rintro ⟨w1,w2⟩
      refine ⟨(znu w1 ?_).2,w2⟩
      rintro rfl
      rcases (zn9 Q w2 hb).2 with e | e
      ·exact c e
      ·omega
    ·rw [if_neg d]
     have hr : b ≠ (root : Int):=by
      rintro rfl
      have e0:=zj4 (t:=t.set root (-1)) (a:=(root : Int)) (by omega) (by rw [zkG Q]; exact zmB Q) (by rw [zpF Q (by omega),if_pos rfl])
      omega
     obtain ⟨k1,k2,k3,k4⟩:=ztu Q hb hr
     have ds:=zfe h2 (by rw [k1]; exact k4)
     rw [k1] at ds ⊢
     obtain ⟨q1,q2⟩:=ih a _ ha k2 (by omega)
     refine ⟨q1,fun y => ?_⟩
     rw [q2 y]
     constructor
     ·rintro ⟨w1,w2⟩
      exact ⟨w1,.step hr w2⟩
     ·rintro ⟨w1,w2⟩
      refine ⟨w1,(znu w2 ?_).2⟩
      rintro rfl
      rcases (zn9 Q w1 ha).2 with e | e
      ·exact c e.symm
      ·omega
theorem zDC (a b : Int) : inS (t.set root (-1)) [a,b] = true ↔ O a ∧ O b:=by
 unfold inS
 rw [zv0 Q]
 have ha:=zxZ Q a
 have hb:=zxZ Q b
 simp only [y4,List.any_cons,List.any_nil,Bool.or_false,yE,yS,decide_eq_false_iff_not]
 rw [← ha,← hb]
 omega
theorem zu8 (a b : Int) : zkr (t.set root (-1)) a b = true ↔ O a ∧ O b ∧ Anc (root : Int) (tf t) a b:=by
 unfold zkr
 rw [yc,zDC Q,decide_eq_true_eq]
 constructor
 ·rintro ⟨⟨ha,hb⟩,h⟩
  have hs:=znM Q _ a b ha hb (by have:=zpL Q ha; have:=zpL Q hb; omega : zE (t.set root (-1)) a + zE (t.set root (-1)) b ≤ ((zE (t.set root (-1)) a + zE (t.set root (-1)) b).toNat : Int))
  rw [zwe,if_pos ((zDC Q a b).2 ⟨ha,hb⟩)] at h
  rw [h] at hs
  exact ⟨ha,hb,((hs.2 a).1 (.refl _)).2⟩
 ·rintro ⟨ha,hb,h⟩
  refine ⟨⟨ha,hb⟩,?_⟩
  have hs:=znM Q _ a b ha hb (by have:=zpL Q ha; have:=zpL Q hb; omega : zE (t.set root (-1)) a + zE (t.set root (-1)) b ≤ ((zE (t.set root (-1)) a + zE (t.set root (-1)) b).toNat : Int))
  rw [zwe,if_pos ((zDC Q a b).2 ⟨ha,hb⟩)]
  have h1:=(hs.2 a).2 ⟨.refl _,h⟩
  have h2:=((hs.2 _).1 (.refl _)).1
  rcases (zn9 Q h1 hs.1).2 with e | e
  ·exact e.symm
  ·rcases (zn9 Q h2 ha).2 with e2 | e2
   ·exact e2
   ·omega
theorem zA2 (a b : Int) : zkr (t.set root (-1)) a b = true ↔ O a ∧ O b ∧ Dom (Eg succ) (root : Int) a b:=by
 rw [zu8 Q]
 constructor
 ·rintro ⟨h1,h2,h3⟩
  exact ⟨h1,h2,(zuY Q.ord Q.inv Q.st h2).1 h3⟩
 ·rintro ⟨h1,h2,h3⟩
  exact ⟨h1,h2,(zuY Q.ord Q.inv Q.st h2).2 h3⟩
end
end AC
namespace AC
open Go Go.A Go.A.Lex
open Dm
inductive RW (succ : List (List Int)) (root w : Int) : Int → Prop
 | root : root ≠ w → RW succ root w root
 | step {p x : Int} : RW succ root w p → Eg succ p x → x ≠ w → RW succ root w x
def leB (a b : List Bool) : Prop:=∀ j : Nat,a.getD j false = true → b.getD j false = true
theorem leB.trans {a b c : List Bool} (h : leB a b) (k : leB b c) : leB a c:=fun j hj => k j (h j hj)
theorem zn0 (w : Int) : ∀ (l : List Int) (out : List Bool),leB out (l.foldl (mark w) out)
 | [],out => fun j h => h
 | y :: l,out => fun j h => by
   rw [yU]
   exact zn0 w l (mark w out y) j (zsP h)
theorem zvD (w : Int) : ∀ (l : List Int) (out : List Bool),(∀ y ∈ l,0 ≤ y ∧ y < (out.length : Int)) → ∀ y ∈ l,y ≠ w → (l.foldl (mark w) out).getD y.toNat false = true
 | [],_,_ => by simp
 | x :: l,out,hr => fun y hy hw => by
   rw [yU]
   have hr' : ∀ z ∈ l,0 ≤ z ∧ z < ((mark w out x).length : Int):=fun z hz => by rw [zll]; exact hr z (yh _ hz)
   rcases yp.1 hy with rfl | hy
   ·refine zn0 w l _ _ ?_
    have:=hr y yf
    unfold mark
    rw [if_neg hw,zbh _ _ (by omega)]
   ·exact zvD w l _ hr' y hy hw
theorem zmg (w : Int) : ∀ (r : List (List Int)) (i : Nat) (out : List Bool),leB out (zi9 w i r out)
 | [],_,_ => fun j h => h
 | l :: r,i,out => by
   rw [zi9]
   refine leB.trans ?_ (zmg w r (i + 1) _)
   split
   ·exact zn0 w l out
   ·exact fun j h => h
theorem znA (w : Int) (n : Nat) : ∀ (r : List (List Int)) (i : Nat) (out : List Bool),out.length = n → (∀ l ∈ r,∀ y ∈ l,0 ≤ y ∧ y < (n : Int)) → leB (zi9 w i r out) out →
  ∀ (j : Nat) (l : List Int),r[j]? = some l → out.getD (i + j) false = true → ∀ y ∈ l,y ≠ w → out.getD y.toNat false = true
 | [],_,_,_,_,_ => by simp
 | l :: r,i,out,ho,hr,hle => by
   intro j q hq hj y hy hw
   rw [zi9] at hle
   obtain ⟨o1,ho1⟩ : ∃ o1,o1 = (if out.getD i false = true then l.foldl (mark w) out else out):=⟨_,rfl⟩
   rw [← ho1] at hle
   have h1 : leB out o1:=by
    rw [ho1]
    split
    ·exact zn0 w l out
    ·exact fun j h => h
   have h2 : leB o1 out:=leB.trans (zmg w r (i + 1) o1) hle
   have hl1 : o1.length = n:=by
    rw [ho1]
    split
    ·rw [zhp]; exact ho
    ·exact ho
   cases j with
   | zero =>
     simp only [yN,Option.some.injEq] at hq
     subst hq
     rw [yR] at hj
     refine h2 _ ?_
     rw [ho1,if_pos hj]
     exact zvD w l out (fun z hz => by rw [ho]; exact hr l yf z hz) y hy hw
   | succ j =>
     have:=znA w n r (i + 1) o1 hl1 (fun l hl => hr l (yh _ hl)) (leB.trans hle h1) j q (by simpa using hq) (by rw [show i + 1 + j = i + (j + 1) by omega]; exact h1 _ hj) y hy hw
     exact h2 _ this
theorem count_le : ∀ (a b : List Bool),a.length = b.length → leB a b → a.count true ≤ b.count true ∧ ((∃ j,b.getD j false = true ∧ a.getD j false = false) → a.count true < b.count true)
 | [],b,h,_ => by
   have : b = []:=List.eq_nil_of_length_eq_zero (by simpa using h.symm)
   subst this
   simp
 | x :: a,[],h,_ => by simp at h
 | x :: a,y :: b,h,hle => by
   have ht : leB a b:=fun j hj => by
    have:=hle (j + 1) (by simpa using hj)
    simpa using this
   have h0:=hle 0
   simp only [yY] at h0
   obtain ⟨i1,i2⟩:=count_le a b (by simpa using h) ht
   constructor
   ·rw [yv,yv]
    cases x <;> cases y <;> simp at h0 ⊢ <;> omega
   ·rintro ⟨j,h1,h2⟩
    cases j with
    | zero =>
      simp only [yY] at h1 h2
      subst h1 h2
      rw [yv,yv]
      simp
      omega
    | succ j =>
      have:=i2 ⟨j,by simpa using h1,by simpa using h2⟩
      rw [yv,yv]
      cases x <;> cases y <;> simp at h0 ⊢ <;> omega
theorem zEe {a b : List Bool} (hl : a.length = b.length) (h : leB a b) (k : leB b a) : a = b:=by
 apply yt
 intro j
 by_cases c : j < a.length
 ·have cb : j < b.length:=by omega
  have e1 : a.getD j false = a[j]:=by rw [yd,ye c]; rfl
  have e2 : b.getD j false = b[j]:=by rw [yd,ye cb]; rfl
  have h1:=h j
  have h2:=k j
  rw [e1,e2] at h1 h2
  rw [ye c,ye cb]
  congr 1
  cases ha : a[j] <;> cases hb : b[j] <;> simp_all
 ·rw [yi (by omega),yi (by omega)]
section
variable {succ : List (List Int)} (hr : ∀ l ∈ succ,∀ y ∈ l,0 ≤ y ∧ y < (succ.length : Int)) (root w : Int)
def zhk (succ : List (List Int)) (w : Int) (out : List Bool) : Prop:=∀ (j : Nat) (l : List Int),succ[j]? = some l → out.getD j false = true → ∀ y ∈ l,y ≠ w → out.getD y.toNat false = true
include hr
theorem zmp : ∀ (r : Nat) (out : List Bool),out.length = succ.length → zhk succ w (zeV w succ r out) ∨ out.count true + r ≤ (zeV w succ r out).count true
 | 0,out,_ => .inr (yae _)
 | r + 1,out,ho => by
   rw [zeV]
   have hl:=zhy w succ 0 out
   by_cases c : leB (zi9 w 0 succ out) out
   ·have e:=zEe hl c (zmg w succ 0 out)
    have hc : zhk succ w out:=fun j l h1 h2 => znA w succ.length succ 0 out ho hr c j l h1 (by rw [yF]; exact h2)
    have st : ∀ k,zeV w succ k out = out:=by
     intro k
     induction k with
     | zero => rfl
     | succ k ih => rw [zeV,e,ih]
    left
    rw [e,st]
    exact hc
   ·have hlt : out.count true < (zi9 w 0 succ out).count true:=by
     refine (count_le out _ hl.symm (zmg w succ 0 out)).2 ?_
     have hex : ∃ j,¬ ((zi9 w 0 succ out).getD j false = true → out.getD j false = true):=Classical.not_forall.1 c
     obtain ⟨j,hj⟩:=hex
     have hj2:=Classical.not_imp.1 hj
     exact ⟨j,hj2.1,by simpa using hj2.2⟩
    rcases zmp r (zi9 w 0 succ out) (by rw [hl]; exact ho) with h | h
    ·exact .inl h
    ·right; omega
theorem zv9 {out : List Bool} (P : Int → Prop) (h : ∀ j : Nat,out.getD j false = true → P (j : Int)) {y : Int} (h0 : 0 ≤ y) (hy : y ≠ w → P y) : ∀ j : Nat,(mark w out y).getD j false = true → P (j : Int):=by
 intro j hj
 unfold mark at hj
 split at hj
 ·exact h j hj
 ·rename_i c
  by_cases e : y.toNat = j
  ·rw [show (j : Int) = y by omega]
   exact hy c
  ·rw [getD_set_ne _ _ e] at hj
   exact h j hj
theorem zpy (P : Int → Prop) : ∀ (l : List Int) (out : List Bool),(∀ j : Nat,out.getD j false = true → P (j : Int)) → (∀ y ∈ l,0 ≤ y ∧ (y ≠ w → P y)) → ∀ j : Nat,(l.foldl (mark w) out).getD j false = true → P (j : Int)
 | [],_,h,_ => h
 | y :: l,out,h,hl => by
   rw [yU]
   exact zpy P l _ (zv9 hr w P h (hl y yf).1 (hl y yf).2) fun z hz => hl z (yh _ hz)
theorem zoj (P : Int → Prop) (hP : ∀ p x,P p → Eg succ p x → x ≠ w → P x) : ∀ (r : List (List Int)) (i : Nat) (out : List Bool),(∀ j l,r[j]? = some l → succ[i + j]? = some l) → (∀ j : Nat,out.getD j false = true → P (j : Int)) → ∀ j : Nat,(zi9 w i r out).getD j false = true → P (j : Int)
 | [],_,_,_,h => h
 | l :: r,i,out,hs,h => by
   rw [zi9]
   refine zoj P hP r (i + 1) _ (fun j q hq => ?_) ?_
   ·have:=hs (j + 1) q (by simpa using hq)
    rwa [show i + (j + 1) = i + 1 + j by omega] at this
   ·split
    ·rename_i c
     have hl:=hs 0 l rfl
     rw [yR] at hl
     have hlm:=yV hl
     have hi:=(yA.1 hl).1
     refine zpy hr w P l out h fun y hy => ⟨(hr l hlm y hy).1,fun hw => hP (i : Int) y (h i c) ⟨by omega,by omega,?_⟩ hw⟩
     rw [ya,yd,hl]
     exact hy
    ·exact h
theorem znx (P : Int → Prop) (hP : ∀ p x,P p → Eg succ p x → x ≠ w → P x) : ∀ (r : Nat) (out : List Bool),(∀ j : Nat,out.getD j false = true → P (j : Int)) → ∀ j : Nat,(zeV w succ r out).getD j false = true → P (j : Int)
 | 0,_,h => h
 | r + 1,out,h => by
   rw [zeV]
   exact znx P hP r _ (zoj hr w P hP succ 0 out (fun j l hj => by rw [yF]; exact hj) h)
theorem ztD : ∀ (r : Nat) (out : List Bool),leB out (zeV w succ r out)
 | 0,_ => fun j h => h
 | r + 1,out => by
   rw [zeV]
   exact leB.trans (zmg w succ 0 out) (ztD r _)
theorem zst (h0 : 0 ≤ root ∧ root < (succ.length : Int)) (j : Nat) : (zdn succ root w).getD j false = true ↔ RW succ root w (j : Int):=by
 unfold zdn
 by_cases c : root = w
 ·rw [if_pos c]
  constructor
  ·intro h
   rw [yd,yC] at h
   split at h <;> simp at h
  ·intro h
   exfalso
   have key : ∀ x,RW succ root w x → False:=fun x hx => by
    induction hx with
    | root h => exact h c
    | step _ _ _ ih => exact ih
   exact key _ h
 ·rw [if_neg c]
  obtain ⟨o0,ho0⟩ : ∃ o,o = (yo succ.length false).set root.toNat true:=⟨_,rfl⟩
  have hl0 : o0.length = succ.length:=by rw [ho0]; simp
  have hroot : o0.getD root.toNat false = true:=by rw [ho0,zbh _ _ (by simp; omega)]
  rw [← ho0]
  constructor
  ·refine znx hr w (RW succ root w) (fun p x hp e hx => .step hp e hx) succ.length o0 (fun i hi => ?_) j
   rw [ho0] at hi
   by_cases e : root.toNat = i
   ·rw [show (i : Int) = root by omega]
    exact .root c
   ·rw [getD_set_ne _ _ e,yd,yC] at hi
    split at hi <;> simp at hi
  ·have hcl : zhk succ w (zeV w succ succ.length o0):=by
    rcases zmp hr w succ.length o0 hl0 with h | h
    ·exact h
    ·exfalso
     have h1 : 1 ≤ o0.count true:=by
      rw [ho0,yab (by simp; omega)]
      simp
     have h2 : (zeV w succ succ.length o0).count true ≤ succ.length:=by
      have:=List.count_le_length (a:=true) (l:=zeV w succ succ.length o0)
      rw [zgx,hl0] at this
      exact this
     omega
   have key : ∀ x,RW succ root w x → 0 ≤ x ∧ (zeV w succ succ.length o0).getD x.toNat false = true:=fun x hx => by
    induction hx with
    | root _ => exact ⟨h0.1,ztD hr w _ _ _ hroot⟩
    | step _ e hx ih =>
      rename_i p x _
      have rx:=zu4 hr e
      refine ⟨rx.1,?_⟩
      obtain ⟨e1,e2,e3⟩:=e
      have hlt : p.toNat < succ.length:=by omega
      rw [yd,ye hlt] at e3
      exact hcl p.toNat succ[p.toNat] (ye hlt) ih.2 x e3 hx
   intro h
   have:=(key _ h).2
   rwa [ya] at this
omit hr in
theorem zCt (x : Int) : RW succ root w x ↔ ∃ l,Way (Eg succ) root x l ∧ w ∉ l:=by
 constructor
 ·intro h
  induction h with
  | root h => exact ⟨_,.root,by simpa using fun e => h e.symm⟩
  | step _ e hx ih =>
    obtain ⟨l,h1,h2⟩:=ih
    refine ⟨_,.step h1 e,fun hm => ?_⟩
    rcases yp.1 hm with h | h
    ·exact hx h.symm
    ·exact h2 h
 ·rintro ⟨l,h1,h2⟩
  induction h1 with
  | root => exact .root fun e => h2 (by rw [e]; exact yf)
  | step h e ih => exact .step (ih fun hm => h2 (yh _ hm)) e fun e => h2 (by rw [e]; exact yf)
end
section
variable {succ : List (List Int)} (hm : zbk succ = true) {root : Nat} {O : Int → Prop} {pos : Int → Nat} {t : List Int} (Q : TreeOf succ (root : Int) O pos t)
include hm Q
theorem zux (j : Nat) : (zdn succ (root : Int) (-1)).getD j false = true ↔ O (j : Int):=by
 obtain ⟨n1,n64,hr⟩:=zew hm
 rw [zst hr (root : Int) (-1) ⟨by omega,zmB Q⟩,zCt,Q.rch]
 constructor
 ·rintro ⟨l,h,_⟩; exact ⟨l,h⟩
 ·rintro ⟨l,h⟩
  refine ⟨l,h,fun hmm => ?_⟩
  have:=Q.rng _ ((zva Q.ord h).2 _ hmm)
  omega
theorem zls (c b : Nat) : ovB succ (root : Int) c b = true ↔ O (b : Int) ∧ Dom (Eg succ) (root : Int) (c : Int) (b : Int):=by
 obtain ⟨n1,n64,hr⟩:=zew hm
 unfold ovB
 rw [yc,zux hm Q,yE,← y6,zst hr (root : Int) (c : Int) ⟨by omega,zmB Q⟩,zCt]
 constructor
 ·rintro ⟨h1,h2⟩
  refine ⟨h1,fun l w => ?_⟩
  by_cases hc : (c : Int) ∈ l
  ·exact hc
  ·exact absurd ⟨l,w,hc⟩ h2
 ·rintro ⟨h1,h2⟩
  exact ⟨h1,fun ⟨l,w,hc⟩ => hc (h2 l w)⟩
theorem zse (b a : Nat) : ∀ (d k : Nat),ze2 succ (root : Int) b a k d = true ↔ ∀ c,k ≤ c → c < k + d → c = b ∨ ¬ ovB succ (root : Int) c b = true ∨ ovB succ (root : Int) c a = true
 | 0,k => by simp [ze2]; omega
 | d + 1,k => by
   rw [ze2,yc,zse b a d (k + 1)]
   simp only [Bool.or_eq_true,decide_eq_true_eq,yE,y6]
   constructor
   ·rintro ⟨h1,h2⟩ c hc1 hc2
    by_cases e : c = k
    ·subst e; exact h1
    ·exact h2 c (by omega) (by omega)
   ·intro h
    exact ⟨h k (by omega) (by omega),fun c hc1 hc2 => h c (by omega) (by omega)⟩
omit hm Q in
theorem zoG (b : Nat) : ∀ (d k : Nat) (v : Int),(∀ c,k ≤ c → c < k + d → ¬ (c ≠ b ∧ ovB succ (root : Int) c b = true ∧ ze2 succ (root : Int) b c 0 succ.length = true)) → zfS succ (root : Int) b k d v = v
 | 0,_,_,_ => rfl
 | d + 1,k,v,h => by
   have h0:=h k (by omega) (by omega)
   rw [zfS,if_neg,zoG b d (k + 1) v fun c h1 h2 => h c (by omega) (by omega)]
   simpa using h0
omit hm Q in
theorem zvf (b k0 : Nat) : ∀ (d k : Nat) (v : Int),k ≤ k0 → k0 < k + d → (k0 ≠ b ∧ ovB succ (root : Int) k0 b = true ∧ ze2 succ (root : Int) b k0 0 succ.length = true) →
  (∀ c,k ≤ c → c < k + d → c ≠ k0 → ¬ (c ≠ b ∧ ovB succ (root : Int) c b = true ∧ ze2 succ (root : Int) b c 0 succ.length = true)) → zfS succ (root : Int) b k d v = (k0 : Int)
 | 0,k,v,h1,h2,_,_ => by omega
 | d + 1,k,v,h1,h2,hp,hu => by
   rw [zfS]
   by_cases e : k = k0
   ·subst e
    rw [if_pos (by simpa using hp)]
    exact zoG b d (k + 1) _ fun c h3 h4 => hu c (by omega) (by omega) (by omega)
   ·exact zvf b k0 d (k + 1) _ (by omega) (by omega) hp fun c h3 h4 => hu c (by omega) (by omega)
theorem zyE : zeS succ (root : Int) = t.set root (-1):=by
 obtain ⟨n1,n64,hr⟩:=zew hm
 apply yt
 intro b
 by_cases hb : b < succ.length
 ·have hl:=zkG Q
  have hbt : b < (t.set root (-1)).length:=by omega
  rw [zeS,List.getElem?_map,List.getElem?_range hb,ye hbt]
  simp only [Option.map_some]
  congr 1
  have e : (t.set root (-1))[b] = tr (t.set root (-1)) (b : Int):=by
   unfold tr
   rw [ya,yd,ye hbt]
   rfl
  rw [e]
  unfold zr3
  by_cases c : (b : Int) = (root : Int)
  ·rw [if_pos c,zpF Q (by omega),if_pos c]
  ·rw [if_neg c]
   by_cases ho : O (b : Int)
   ·obtain ⟨h1,h2,h3,h4⟩:=ztu Q ho c
    have rp:=Q.rng _ h2
    obtain ⟨p,hp⟩ : ∃ p : Nat,(p : Int) = tf t (b : Int):=⟨(tf t (b : Int)).toNat,by omega⟩
    rw [h1,← hp]
    rw [← hp] at h2 h3 rp
    have hdom : Dom (Eg succ) (root : Int) (p : Int) (b : Int):=(zuY Q.ord Q.inv Q.st ho).1 (.step c (by rw [← hp]; exact .refl _))
    have hA : ∀ d,Dom (Eg succ) (root : Int) d (b : Int) → d ≠ (b : Int) → Dom (Eg succ) (root : Int) d (p : Int):=fun d h5 h6 => by
     have:=Q.inv.A (b : Int) d c (zFP Q ho) h5 h6
     rwa [← hp] at this
    have hpb : p ≠ b:=fun e => by rw [e] at h3; omega
    refine zvf b p succ.length 0 (-2) (yZ _) (by omega) ⟨hpb,(zls hm Q p b).2 ⟨ho,hdom⟩,?_⟩ fun k _ hk hne => ?_
    ·rw [zse hm Q]
     intro k _ hk
     by_cases e1 : k = b
     ·exact .inl e1
     ·by_cases e2 : ovB succ (root : Int) k b = true
      ·exact .inr (.inr ((zls hm Q k p).2 ⟨h2,hA _ ((zls hm Q k b).1 e2).2 (by omega)⟩))
      ·exact .inr (.inl e2)
    ·rintro ⟨k1,k2,k3⟩
     rw [zse hm Q] at k3
     have hk2:=((zls hm Q k b).1 k2).2
     rcases k3 p (yZ _) (by omega) with e1 | e1 | e1
     ·exact hpb e1
     ·exact e1 ((zls hm Q p b).2 ⟨ho,hdom⟩)
     ·obtain ⟨ok,hpk⟩:=(zls hm Q p k).1 e1
      have hkp:=hA _ hk2 (by omega)
      rcases zrw Q.ord ok hpk with e2 | e2
      ·exact hne (by omega)
      ·rcases zrw Q.ord h2 hkp with e3 | e3
       ·exact hne (by omega)
       ·omega
   ·rw [zyL Q ho (by omega)]
    refine zoG b succ.length 0 (-2) fun k _ _ h => ?_
    exact ho ((zls hm Q k b).1 h.2.1).1
 ·rw [yi (by simp [zeS]; omega),yi (by rw [zkG Q]; omega)]
omit hm in
theorem zqz : ∀ (r : Nat) (acc : List Int) (a : Int),O a → pos a < r → ∃ ch,pathFrom (t.set root (-1)) r acc a = acc ++ a :: ch ∧ ∀ x,x ∈ a :: ch ↔ Anc (root : Int) (tf t) x a:=by
 intro r
 induction r with
 | zero => intro acc a _ h; omega
 | succ r ih =>
   intro acc a ha h
   have ra:=Q.rng a ha
   rw [pathFrom,if_neg (by rw [zkG Q]; omega)]
   by_cases c : a = (root : Int)
   ·rw [if_pos (by rw [zpF Q ra.1,if_pos c])]
    refine ⟨[],rfl,fun x => ?_⟩
    rw [yL]
    constructor
    ·rintro rfl; exact .refl _
    ·intro hx
     by_cases e : x = a
     ·exact e
     ·exact absurd c (znu hx e).1
   ·obtain ⟨h1,h2,h3,h4⟩:=ztu Q ha c
    rw [h1,if_neg h4]
    obtain ⟨ch,e1,e2⟩:=ih (acc ++ [a]) (tf t a) h2 (by omega)
    refine ⟨tf t a :: ch,by rw [e1]; simp,fun x => ?_⟩
    rw [yp,e2 x]
    constructor
    ·rintro (rfl | hx)
     ·exact .refl _
     ·exact .step c hx
    ·intro hx
     by_cases e : x = a
     ·exact .inl e
     ·exact .inr (znu hx e).2
omit hm in
theorem zzH {a b : Int} (ha : O a) (hb : O b) : zmf (t.set root (-1)) a b = a ↔ zkr (t.set root (-1)) a b = true:=by
 rw [zu8 Q]
 unfold zmf
 rw [if_pos (zv0 Q)]
 have hpa : pos a < (t.set root (-1)).length:=by rw [zkG Q]; exact Q.low a ha
 have hpb : pos b < (t.set root (-1)).length:=by rw [zkG Q]; exact Q.low b hb
 obtain ⟨ca,e1,e2⟩:=zqz Q _ [] a ha hpa
 obtain ⟨cb,e3,e4⟩:=zqz Q _ [] b hb hpb
 rw [yI] at e1 e3
 have f1 : zid (t.set root (-1)) a = a :: ca:=e1
 have f2 : zid (t.set root (-1)) b = b :: cb:=e3
 rw [f1,f2,yJ]
 by_cases c : a ∈ b :: cb
 ·rw [decide_eq_true c]
  simp only [yac,true_iff]
  exact ⟨ha,hb,(e4 a).1 c⟩
 ·rw [decide_eq_false c]
  simp only
  constructor
  ·intro h
   exfalso
   cases hf : ca.find? (fun x => decide (x ∈ b :: cb)) with
   | none =>
     rw [hf] at h
     have:=(Q.rng a ha).1
     simp at h
     omega
   | some x =>
     rw [hf] at h
     have:=List.find?_some hf
     simp only [yac] at h
     subst h
     exact c (by simpa using this)
  ·rintro ⟨_,_,h⟩
   exact absurd ((e4 a).2 h) c
end
end AC
namespace AC
open Go Go.A Go.A.Lex
def rvK (l : List Int) (k : Nat) : List Int:=(yah l.length).map fun j => if j < k ∨ l.length - k ≤ j then l.getD (l.length - 1 - j) 0 else l.getD j 0
theorem zh2 (l : List Int) (k : Nat) : (rvK l k).length = l.length:=by simp [rvK]
theorem zm5 (l : List Int) (k j : Nat) (h : j < l.length) : (rvK l k)[j]? = some (if j < k ∨ l.length - k ≤ j then l.getD (l.length - 1 - j) 0 else l.getD j 0):=by simp [rvK,h]
theorem zA1 (l : List Int) : rvK l 0 = l:=by
 apply yt
 intro j
 by_cases h : j < l.length
 ·rw [zm5 l 0 j h,if_neg (by omega)]
  simp [h]
 ·rw [yi (by rw [zh2]; omega),yi (by omega)]
theorem zCz (l : List Int) (k : Nat) (h : l.length ≤ 2 * k + 1) : rvK l k = l.reverse:=by
 apply yt
 intro j
 by_cases hj : j < l.length
 ·rw [zm5 l k j hj,List.getElem?_reverse hj]
  have h2 : l.length - 1 - j < l.length:=by omega
  by_cases c : j < k ∨ l.length - k ≤ j
  ·rw [if_pos c]
   simp [h2]
  ·rw [if_neg c]
   have : l.length - 1 - j = j:=by omega
   rw [this]
   simp [hj]
 ·rw [yi (by rw [zh2]; omega),yi (by simp; omega)]
theorem zBd (l : List Int) (k : Nat) (h : 2 * k + 1 < l.length) : ((rvK l k).set k (l.getD (l.length - 1 - k) 0)).set (l.length - 1 - k) (l.getD k 0) = rvK l (k + 1):=by
 apply yt
 intro j
 by_cases hj : j < l.length
 ·rw [zm5 l (k + 1) j hj,yG,yG,zm5 l k j hj]
  simp only [yK,zh2]
  by_cases c1 : l.length - 1 - k = j
  ·rw [if_pos c1,if_pos (by omega),if_pos (by omega)]
   have : l.length - 1 - j = k:=by omega
   rw [this]
  ·rw [if_neg c1]
   by_cases c2 : k = j
   ·rw [if_pos c2,if_pos (by omega),if_pos (by omega),c2]
   ·rw [if_neg c2]
    by_cases c3 : j < k ∨ l.length - k ≤ j
    ·rw [if_pos c3,if_pos (by omega)]
    ·rw [if_neg c3,if_neg (by omega)]
 ·rw [yi (by simp [zh2]; omega),yi (by rw [zh2]; omega)]
theorem zmr {l : List Int} {j : Nat} {x : Int} (h : l[j]? = some x) : (l.map zj)[j]? = some [.f (.lit (.int .i64 x))]:=by simp [h,zj]
theorem zsO (σ : zd) (id ver : Nat) (l : List Int) (hl : l.length ≤ 4294967296) (hid : id < σ.length) : ∀ (d k : Nat) (a3 : V),l.length - 2 * k ≤ d → 2 * k ≤ l.length →
  exec T zaK ⟨[.one (.own id ver 0 l.length),vI k,vI ((l.length : Int) - 1 - k),a3],σ.set id (.cells ver 1 ((rvK l k).map zj)),σ.length,σ.length⟩ =
   some (.exit 0,⟨[vU,vU,vU,vU],σ.set id (.cells ver 1 (l.reverse.map zj)),σ.length,σ.length⟩):=by
 have hend : ∀ k : Nat,¬ ((k : Int) < (l.length : Int) - 1 - k) → 2 * k ≤ l.length → ∀ (a3 : V),
  exec T zaK ⟨[.one (.own id ver 0 l.length),vI k,vI ((l.length : Int) - 1 - k),a3],σ.set id (.cells ver 1 ((rvK l k).map zj)),σ.length,σ.length⟩ =
   some (.exit 0,⟨[vU,vU,vU,vU],σ.set id (.cells ver 1 (l.reverse.map zj)),σ.length,σ.length⟩):=by
  intro k hc hk a3
  rw [xl zaK rfl,zdY,zCz l k (by omega)]
  simp -implicitDefEqProofs only [go_sem,hc,yK]
 intro d
 induction d with
 | zero =>
   intro k a3 h1 h2
   exact hend k (by omega) h2 _
 | succ d ih =>
   intro k a3 h1 h2
   by_cases hc : (k : Int) < (l.length : Int) - 1 - k
   ·have hk : k < l.length:=by omega
    have hk2 : l.length - 1 - k < l.length:=by omega
    have g1:=zmr (zm5 l k k hk)
    have g2:=zmr (zm5 l k (l.length - 1 - k) hk2)
    rw [if_neg (by omega)] at g1 g2
    have e1 : ((l.length : Int) - 1 - k).toNat = l.length - 1 - k:=by omega
    have e2 : (0 : Int) ≤ (l.length : Int) - 1 - k:=by omega
    have e3 : ((l.length : Int) - 1 - k < (l.length : Int)) = True:=by simp; omega
    have w1 : Go.IntKind.i64.wrap ((k : Int) + 1) = ((k + 1 : Nat) : Int):=by rw [wrap_i64] <;> omega
    have w2 : Go.IntKind.i64.wrap ((l.length : Int) - 1 - k - 1) = (l.length : Int) - 1 - ((k + 1 : Nat) : Int):=by rw [wrap_i64] <;> omega
    have hs : ((l.map zj).length) = l.length:=by simp
    have st:=congrArg (yag zj) (zBd l k (by omega))
    rw [yz,yz] at st
    have:=ih (k + 1) vU (by omega) (by omega)
    rw [← st] at this
    have hne : ¬ l.length - 1 - k = k:=by omega
    have g2' : ((yag zj (rvK l k)).set k (zj (l.getD (l.length - 1 - k) 0)))[l.length - 1 - k]? = some [.f (.lit (.int .i64 (l.getD (l.length - 1 - k) 0)))]:=by
     rw [List.getElem?_set_ne (by omega)]
     exact g2
    rw [xl zaK rfl,zdY]
    simp -implicitDefEqProofs only [go_sem,zj] at this g2'
    simp -implicitDefEqProofs only [go_sem,hc,e1,e2,e3,ilt hk,yk,ya,List.getElem?_set_self hid,g1,g2,g2',yaf,yK,w1,w2,this]
   ·exact hend k hc h2 _
theorem ztz (σ : zd) (id ver : Nat) (l : List Int) (hl : l.length ≤ 4294967296) (hσ : σ[id]? = some (.cells ver 1 (l.map zj))) (n : Nat) (hn : n = l.length) :
  call T 149 [.one (.own id ver 0 n)] σ = some (.tup [],σ.set id (.cells ver 1 (l.reverse.map zj))):=by
 subst hn
 rw [ze (fn:=zeP) rfl]
 have hid : id < σ.length:=(yA.1 hσ).1
 have h:=fun a3 => zsO σ id ver l hl hid l.length 0 a3 (by omega) (by omega)
 have hs : σ.set id (.cells ver 1 (l.map zj)) = σ:=by
  apply yt
  intro j
  rw [yG]
  by_cases e : id = j
  ·subst e; rw [if_pos rfl,if_pos hid,hσ]
  ·rw [if_neg e]
 rw [zA1,hs] at h
 simp only [ys,Int.sub_zero] at h
 have w : Go.IntKind.i64.wrap ((l.length : Int) - 1) = (l.length : Int) - 1:=by rw [wrap_i64] <;> omega
 simp -implicitDefEqProofs only [go_sem] at h
 simp -implicitDefEqProofs only [go_sem,zeP,w,h,yK]
end AC
namespace AC
open Go Go.A Go.A.Lex
theorem n64 : ((64 : Nat) : Int) = 64:=rfl
attribute [go_sem] n64
def cB (b : Bool) : C:=.f (.lit (.bool b))
def cN (n : Nat) : C:=.f (.lit (.int .i64 n))
section
variable (succ pred : List (List Int)) (hn : succ.length ≤ 64) (hs : ∀ l ∈ succ,l.length ≤ 4294967296) (hr : ∀ l ∈ succ,∀ y ∈ l,0 ≤ y ∧ y < (succ.length : Int))
abbrev obG : Ob:=.cells 0 2 [[.f (.sl (succ.map rl)),.f (.sl (pred.map rl))]]
abbrev stO (seen : List Bool) (next : List Nat) (vo : Nat) (out : List Int) (vs : Nat) (row : List Int) : zd :=
 [obG succ pred,.cells 0 64 [seen.map cB],.cells 0 64 [next.map cN],.cells vo 1 (out.map zj),.cells vs 1 (row.map zj)]
include hn hs hr
theorem zut (X : Nat) (hX : X < succ.length) (seen : List Bool) (hseen : seen.length = 64) (vo : Nat) (out : List Int) (vs : Nat) (row : List Int) (m : Nat) (hm : m ≤ row.length) (hm1 : m + 1 ≤ 4294967296) : ∀ (d nx : Nat) (next : List Nat) (a0 a1 a3 a9 a10 a11 a12 a13 : V),next.length = 64 → next[X]? = some nx → succ[X].length - nx = d → nx ≤ succ[X].length →
  exec T zfY ⟨[a0,a1,.one (.ptr 0 0 0 0),a3,.one (.ptr 1 0 0 0),.one (.ptr 2 0 0 0),.one (.own 3 vo 0 out.length),.one (.own 4 vs 0 m),vI X,a9,a10,a11,a12,a13],stO succ pred seen next vo out vs row,0,0⟩ =
   some (match scan seen (succ[X].drop nx) nx with
    | none => (.exit 0,⟨[vU,vU,.one (.ptr 0 0 0 0),vU,.one (.ptr 1 0 0 0),.one (.ptr 2 0 0 0),.one (.own 3 vo 0 out.length),.one (.own 4 vs 0 m),vI X,vU,vU,vU,vU,vU],stO succ pred seen (next.set X succ[X].length) vo out vs row,0,0⟩)
    | some (y,j) => (.goto 0,⟨[vU,vU,.one (.ptr 0 0 0 0),vU,.one (.ptr 1 0 0 0),.one (.ptr 2 0 0 0),.one (.own 3 vo 0 out.length),.one (.own 4 (vs + 1) 0 (m + 1)),vU,vU,vU,vU,vU,vU],stO succ pred (seen.set y.toNat true) (next.set X j) vo out (vs + 1) (row.take m ++ [y]),0,0⟩)):=by
 intro d
 have hX64 : X < 64:=by omega
 have hXi : ((X : Int) < 64) = True:=by simp; omega
 have hsX:=hs _ (yr hX)
 induction d with
 | zero =>
   intro nx next a0 a1 a3 a9 a10 a11 a12 a13 hnl hnx h1 h2
   have hk : nx = succ[X].length:=by omega
   subst hk
   have hg : (next.map cN)[X]? = some (cN succ[X].length):=by simp [hnx]
   have hset : next.set X succ[X].length = next:=by
    apply yt
    intro j
    rw [yG]
    by_cases e : X = j
    ·subst e; rw [if_pos rfl,if_pos (by omega),hnx]
    ·rw [if_neg e]
   rw [xl zfY rfl,zhR,hset]
   simp -implicitDefEqProofs only [go_sem,stO,obG,zp hX,rl,hXi,yk,ya,y2,hg,cN,yO,yH,scan]
 | succ d ih =>
   intro nx next a0 a1 a3 a9 a10 a11 a12 a13 hnl hnx h1 h2
   have hk : nx < succ[X].length:=by omega
   have hd : succ[X].drop nx = succ[X][nx] :: succ[X].drop (nx + 1):=yw hk
   obtain ⟨y0,y1⟩:=hr _ (yr hX) _ (yr hk)
   have hgy : (succ[X].map ri)[nx]? = some (ri succ[X][nx]):=zp hk
   generalize succ[X][nx] = y at *
   obtain ⟨Y,rfl⟩ : ∃ Y : Nat,y = Y:=⟨y.toNat,by omega⟩
   have hY64 : Y < 64:=by omega
   have hYi : ((Y : Int) < 64) = True:=by simp; omega
   have hg : (next.map cN)[X]? = some (cN nx):=by simp [hnx]
   have hov:=zuJ (e:=next.map cN) (k:=X) (.f (.lit (.int .i64 ((nx + 1 : Nat) : Int)))) (by simp; omega)
   have hcs : C.f (.lit (.int .i64 ((nx + 1 : Nat) : Int))) = cN (nx + 1):=rfl
   have hov2 : (next.map cN).set X (C.f (.lit (.int .i64 ((nx + 1 : Nat) : Int)))) = (next.set X (nx + 1)).map cN:=by rw [hcs,yz]
   rw [hov2] at hov
   have hle:=zyy (show X < next.length by omega)
   have hsy : (seen.map cB)[Y]? = some (cB (seen.getD Y false)):=by
    have : Y < seen.length:=by omega
    simp [this]
   have hovs:=zuJ (e:=seen.map cB) (k:=Y) (.f (.lit (.bool true))) (by simp; omega)
   have hovs2 : (seen.map cB).set Y (C.f (.lit (.bool true))) = (seen.set Y true).map cB:=by rw [yz]; rfl
   rw [hovs2] at hovs
   have hles:=zyy (show Y < seen.length by omega)
   have hw : Go.IntKind.i64.wrap ((nx : Int) + 1) = ((nx + 1 : Nat) : Int):=za hk hsX
   have hg2 : ((next.set X (nx + 1)).map cN)[X]? = some (cN (nx + 1)):=by simp [hnl,hX64]
   have hlim : 0 < m + 1 ∧ m + 1 ≤ LIM:=⟨by omega,by unfold LIM; omega⟩
   rw [xl zfY rfl,zhR,hd,scan]
   rw [ya]
   cases e : seen.getD Y false
   ·rw [e] at hsy
    have er : (row.map zj).take m ++ [[C.f (.lit (.int .i64 (Y : Int)))]] = (row.take m ++ [(Y : Int)]).map zj:=by simp [zj,List.map_take]
    simp -implicitDefEqProofs only [go_sem,stO,obG,zp hX,rl,hXi,yk,ya,y2,hg,cN,ilt hk,hgy,ri,hYi,hw,hov,hle,hg2,hsy,cB,hovs,hles,hlim,er]
   ·rw [e] at hsy
    have:=ih (nx + 1) (next.set X (nx + 1)) vU vU vU vU vU vU vU vU (by simpa using hnl) (by simp [hnl,hX64]) (by omega) (by omega)
    simp -implicitDefEqProofs only [go_sem,stO,obG,yaf] at this
    simp -implicitDefEqProofs only [go_sem,stO,obG,zp hX,rl,hXi,yk,ya,y2,hg,cN,ilt hk,hgy,ri,hYi,hw,hov,hle,hg2,hsy,cB,this]
end
end AC
namespace AC
open Go Go.A Go.A.Lex
attribute [go_sem] Option.any_some
def zjT : Go.A.Code:=zr.p2.p2.p2.p2.p2.p2.p2
theorem zqg : zhA = .seq .skip zjT:=rfl
section
variable (succ pred : List (List Int)) (hn : succ.length ≤ 64) (hs : ∀ l ∈ succ,l.length ≤ 4294967296) (hr : ∀ l ∈ succ,∀ y ∈ l,0 ≤ y ∧ y < (succ.length : Int))
include hn hs hr
theorem zvz {d : DF} (hd : DInv succ d) {x : Int} (hx : 0 ≤ x ∧ x < (succ.length : Int)) {j : Nat} (hj : j ≤ (succ.getD x.toNat []).length) : ∀ X,X < succ.length → (d.next.set x.toNat j).getD X 0 ≤ (succ.getD X []).length:=by
 intro X hX
 have h64:=hd.next
 by_cases e : x.toNat = X
 ·subst e
  rw [zbh _ _ (by omega)]
  exact hj
 ·rw [getD_set_ne _ _ e]
  exact hd.le X hX
theorem zwG (d : DF) (stale : List Int) (vo vs : Nat) (X : Nat) (s : List Int) (y : Int) (j : Nat) (a0 a1 a3 a8 a9 a10 a11 a12 a13 : V) (hd : DInv succ d) (hX : X < succ.length) (hb1 : s.length + 2 ≤ 4294967296) (hb2 : d.out.length + 1 ≤ 4294967296) (hscan : zf7 succ d X = some (y,j)) :
  exec T zjT ⟨[a0,a1,.one (.ptr 0 0 0 0),a3,.one (.ptr 1 0 0 0),.one (.ptr 2 0 0 0),.one (.own 3 vo 0 d.out.length),.one (.own 4 vs 0 (s.length + 1)),a8,a9,a10,a11,a12,a13],stO succ pred d.seen d.next vo d.out vs (((X : Int) :: s).reverse ++ stale),0,0⟩ =
   some (.goto 0,⟨[vU,vU,.one (.ptr 0 0 0 0),vU,.one (.ptr 1 0 0 0),.one (.ptr 2 0 0 0),.one (.own 3 vo 0 d.out.length),.one (.own 4 (vs + 1) 0 (s.length + 2)),vU,vU,vU,vU,vU,vU],stO succ pred (d.seen.set y.toNat true) (d.next.set X j) vo d.out (vs + 1) ((y :: (X : Int) :: s).reverse ++ []),0,0⟩):=by
 have hnl:=hd.next
 have hgX : succ.getD X [] = succ[X]:=by simp [hX]
 have hnx : d.next[X]? = some (d.next.getD X 0):=by
  have : X < d.next.length:=by omega
  simp [this]
 have hle:=hd.le X hX
 rw [hgX] at hle
 have hl0:=fun a0 a1 a3 a9 a10 a11 a12 a13 => zut succ pred hn hs hr X hX d.seen hd.seen vo d.out vs (((X : Int) :: s).reverse ++ stale) (s.length + 1) (by simp only [yg,yB,yb,ym]; omega) (by first | omega | (simp only [yb,ym] at hb1 ⊢; omega)) _ (d.next.getD X 0) d.next a0 a1 a3 a9 a10 a11 a12 a13 hnl hnx rfl hle
 have hsc : zf7 succ d (X : Int) = scan d.seen (succ[X].drop (d.next.getD X 0)) (d.next.getD X 0):=by
  unfold zf7
  rw [ya,hgX]
 rw [hsc] at hscan
 have hw : Go.IntKind.i64.wrap (((s.length + 1 : Nat) : Int) - 1) = (s.length : Int):=by rw [wrap_i64] <;> first | omega | (simp only [yb,ym] at hb1 ⊢; omega)
 have hi1 : ((s.length : Int) < ((s.length + 1 : Nat) : Int)) = True:=by first | (simp; done) | (simp; omega)
 have hgrow : ((((X : Int) :: s).reverse ++ stale).map zj)[s.length]? = some [.f (.lit (.int .i64 (X : Int)))]:=by
  apply zmr
  simp
 have hrt : (((X : Int) :: s).reverse ++ stale).take (s.length + 1) = ((X : Int) :: s).reverse:=yW (by simp)
 have hlim : 0 < d.out.length + 1 ∧ d.out.length + 1 ≤ LIM:=⟨by omega,by unfold LIM; omega⟩
 have eo : (d.out.map zj).take d.out.length ++ [[C.f (.lit (.int .i64 (X : Int)))]] = (d.out ++ [(X : Int)]).map zj:=by
  rw [yl (by simp),yX]
  rfl
 generalize hrow : ((X : Int) :: s).reverse ++ stale = row at *
 rw [hscan] at hl0
 have e : (y :: (X : Int) :: s).reverse ++ [] = row.take (s.length + 1) ++ [y]:=by rw [hrt]; simp
 have hp1 : 0 < s.length + 2 ∧ s.length + 2 ≤ LIM:=⟨by omega,by unfold LIM; omega⟩
 rw [e]
 simp -implicitDefEqProofs only [go_sem,stO,obG] at hl0
 simp -implicitDefEqProofs only [go_sem,zjT,zr,Code.p2,stO,obG,hw,hi1,yk,ya,hgrow,hl0]
theorem zys (d : DF) (stale : List Int) (vo vs : Nat) (X : Nat)  (a0 a1 a3 a8 a9 a10 a11 a12 a13 : V) (hd : DInv succ d) (hX : X < succ.length) (hb1 : ([] : List Int).length + 2 ≤ 4294967296) (hb2 : d.out.length + 1 ≤ 4294967296) (hscan : zf7 succ d X = none) :
  exec T zjT ⟨[a0,a1,.one (.ptr 0 0 0 0),a3,.one (.ptr 1 0 0 0),.one (.ptr 2 0 0 0),.one (.own 3 vo 0 d.out.length),.one (.own 4 vs 0 (([] : List Int).length + 1)),a8,a9,a10,a11,a12,a13],stO succ pred d.seen d.next vo d.out vs (((X : Int) :: ([] : List Int)).reverse ++ stale),0,0⟩ =
   some (.ret,⟨[vU,vU,vU,.one (.own 3 (vo + 1) 0 (d.out.length + 1)),vU,vU,vU,vU,vU,vU,vU,vU,vU,vU],stO succ pred d.seen (d.next.set X succ[X].length) (vo + 1) (d.out ++ [(X : Int)]).reverse vs (((X : Int) :: []).reverse ++ stale),0,0⟩):=by
 have hnl:=hd.next
 have hgX : succ.getD X [] = succ[X]:=by simp [hX]
 have hnx : d.next[X]? = some (d.next.getD X 0):=by
  have : X < d.next.length:=by omega
  simp [this]
 have hle:=hd.le X hX
 rw [hgX] at hle
 have hl0:=fun a0 a1 a3 a9 a10 a11 a12 a13 => zut succ pred hn hs hr X hX d.seen hd.seen vo d.out vs (((X : Int) :: ([] : List Int)).reverse ++ stale) (([] : List Int).length + 1) (by simp only [yg,yB,yb,ym]; omega) (by first | omega | (simp only [yb,ym] at hb1 ⊢; omega)) _ (d.next.getD X 0) d.next a0 a1 a3 a9 a10 a11 a12 a13 hnl hnx rfl hle
 have hsc : zf7 succ d (X : Int) = scan d.seen (succ[X].drop (d.next.getD X 0)) (d.next.getD X 0):=by
  unfold zf7
  rw [ya,hgX]
 rw [hsc] at hscan
 have hw : Go.IntKind.i64.wrap (((([] : List Int).length + 1 : Nat) : Int) - 1) = (([] : List Int).length : Int):=by rw [wrap_i64] <;> first | omega | (simp only [yb,ym] at hb1 ⊢; omega)
 have hi1 : ((([] : List Int).length : Int) < ((([] : List Int).length + 1 : Nat) : Int)) = True:=by first | (simp; done) | (simp; omega)
 have hgrow : ((((X : Int) :: ([] : List Int)).reverse ++ stale).map zj)[([] : List Int).length]? = some [.f (.lit (.int .i64 (X : Int)))]:=by
  apply zmr
  simp
 have hrt : (((X : Int) :: ([] : List Int)).reverse ++ stale).take (([] : List Int).length + 1) = ((X : Int) :: ([] : List Int)).reverse:=yW (by simp)
 have hlim : 0 < d.out.length + 1 ∧ d.out.length + 1 ≤ LIM:=⟨by omega,by unfold LIM; omega⟩
 have eo : (d.out.map zj).take d.out.length ++ [[C.f (.lit (.int .i64 (X : Int)))]] = (d.out ++ [(X : Int)]).map zj:=by
  rw [yl (by simp),yX]
  rfl
 generalize hrow : ((X : Int) :: ([] : List Int)).reverse ++ stale = row at *
 rw [hscan] at hl0
 have hrv:=ztz (stO succ pred d.seen (d.next.set X succ[X].length) (vo + 1) (d.out ++ [(X : Int)]) vs row) 3 (vo + 1) (d.out ++ [(X : Int)]) (by simp; omega) rfl (d.out.length + 1) (by simp)
 simp -implicitDefEqProofs only [go_sem,stO,obG] at hl0 hrv hw hi1 hgrow
 simp -implicitDefEqProofs only [go_sem,zjT,zr,Code.p2,stO,obG,hw,hi1,yk,ya,hgrow,hl0,hlim,eo,hrv]
theorem zzd (d : DF) (stale : List Int) (vo vs : Nat) (X : Nat) (z : Int) (s' : List Int) (a0 a1 a3 a8 a9 a10 a11 a12 a13 : V) (hd : DInv succ d) (hX : X < succ.length) (hb1 : (z :: s').length + 2 ≤ 4294967296) (hb2 : d.out.length + 1 ≤ 4294967296) (hscan : zf7 succ d X = none) :
  exec T zjT ⟨[a0,a1,.one (.ptr 0 0 0 0),a3,.one (.ptr 1 0 0 0),.one (.ptr 2 0 0 0),.one (.own 3 vo 0 d.out.length),.one (.own 4 vs 0 ((z :: s').length + 1)),a8,a9,a10,a11,a12,a13],stO succ pred d.seen d.next vo d.out vs (((X : Int) :: (z :: s')).reverse ++ stale),0,0⟩ =
   some (.goto 0,⟨[vU,vU,.one (.ptr 0 0 0 0),vU,.one (.ptr 1 0 0 0),.one (.ptr 2 0 0 0),.one (.own 3 (vo + 1) 0 (d.out.length + 1)),.one (.own 4 vs 0 (s'.length + 1)),vU,vU,vU,vU,vU,vU],stO succ pred d.seen (d.next.set X succ[X].length) (vo + 1) (d.out ++ [(X : Int)]) vs ((z :: s').reverse ++ ((X : Int) :: stale)),0,0⟩):=by
 have hnl:=hd.next
 have hgX : succ.getD X [] = succ[X]:=by simp [hX]
 have hnx : d.next[X]? = some (d.next.getD X 0):=by
  have : X < d.next.length:=by omega
  simp [this]
 have hle:=hd.le X hX
 rw [hgX] at hle
 have hl0:=fun a0 a1 a3 a9 a10 a11 a12 a13 => zut succ pred hn hs hr X hX d.seen hd.seen vo d.out vs (((X : Int) :: z :: s').reverse ++ stale) ((z :: s').length + 1) (by simp only [yg,yB,yb,ym]; omega) (by first | omega | (simp only [yb,ym] at hb1 ⊢; omega)) _ (d.next.getD X 0) d.next a0 a1 a3 a9 a10 a11 a12 a13 hnl hnx rfl hle
 have hsc : zf7 succ d (X : Int) = scan d.seen (succ[X].drop (d.next.getD X 0)) (d.next.getD X 0):=by
  unfold zf7
  rw [ya,hgX]
 rw [hsc] at hscan
 have hw : Go.IntKind.i64.wrap ((((z :: s').length + 1 : Nat) : Int) - 1) = ((z :: s').length : Int):=by rw [wrap_i64] <;> first | omega | (simp only [yb,ym] at hb1 ⊢; omega)
 have hi1 : (((z :: s').length : Int) < (((z :: s').length + 1 : Nat) : Int)) = True:=by first | (simp; done) | (simp; omega)
 have hgrow : ((((X : Int) :: z :: s').reverse ++ stale).map zj)[(z :: s').length]? = some [.f (.lit (.int .i64 (X : Int)))]:=by
  apply zmr
  simp
 have hrt : (((X : Int) :: z :: s').reverse ++ stale).take ((z :: s').length + 1) = ((X : Int) :: z :: s').reverse:=yW (by simp)
 have hlim : 0 < d.out.length + 1 ∧ d.out.length + 1 ≤ LIM:=⟨by omega,by unfold LIM; omega⟩
 have eo : (d.out.map zj).take d.out.length ++ [[C.f (.lit (.int .i64 (X : Int)))]] = (d.out ++ [(X : Int)]).map zj:=by
  rw [yl (by simp),yX]
  rfl
 generalize hrow : ((X : Int) :: z :: s').reverse ++ stale = row at *
 rw [hscan] at hl0
 have e : (z :: s').reverse ++ ((X : Int) :: stale) = row:=by rw [← hrow]; simp
 have hle2 : (s'.length ≤ s'.length + 1) = True:=by simp
 have hp : ((0 : Int) < ((s'.length + 1 : Nat) : Int)) = True:=by first | (simp; done) | (simp; omega)
 rw [e]
 simp -implicitDefEqProofs only [go_sem,stO,obG] at hl0 hw hi1 hgrow
 simp -implicitDefEqProofs only [go_sem,zjT,zr,Code.p2,stO,obG,hw,hi1,yk,ya,hgrow,hl0,hlim,eo,hp,hle2,Nat.sub_zero]
theorem zDx : ∀ (k : Nat) (d : DF) (stale : List Int) (vo vs : Nat) (o : List Int) (a0 a1 a3 a8 a9 a10 a11 a12 a13 : V),DInv succ d → d.stk.length + k ≤ 4294967296 → d.out.length + k ≤ 4294967296 → dfs succ k d = some o →
  ∃ seen' next' vo' vs' row',exec T (.sc zr zhA) ⟨[a0,a1,.one (.ptr 0 0 0 0),a3,.one (.ptr 1 0 0 0),.one (.ptr 2 0 0 0),.one (.own 3 vo 0 d.out.length),.one (.own 4 vs 0 d.stk.length),a8,a9,a10,a11,a12,a13],stO succ pred d.seen d.next vo d.out vs (d.stk.reverse ++ stale),0,0⟩ =
    some (.ret,⟨[vU,vU,vU,.one (.own 3 vo' 0 o.length),vU,vU,vU,vU,vU,vU,vU,vU,vU,vU],stO succ pred seen' next' vo' o.reverse vs' row',0,0⟩):=by
 intro k
 induction k with
 | zero => intro d stale vo vs o _ _ _ _ _ _ _ _ _ _ _ _ h; simp [dfs] at h
 | succ k ih =>
   intro d stale vo vs o a0 a1 a3 a8 a9 a10 a11 a12 a13 hd hb1 hb2 h
   simp only [dfs] at h
   cases hstk : d.stk with
   | nil => rw [hstk] at h; cases h
   | cons x s =>
     rw [hstk] at h hb1
     simp only at h
     simp only [yb] at hb1
     obtain ⟨x0,x1⟩:=hd.stk x (by rw [hstk]; simp)
     obtain ⟨X,rfl⟩ : ∃ X : Nat,x = X:=⟨x.toNat,by omega⟩
     have hX : X < succ.length:=by omega
     have hgX : succ.getD X [] = succ[X]:=by simp [hX]
     have hlX : zwv succ (X : Int) = succ[X].length:=by unfold zwv; rw [ya,hgX]
     cases hscan : zf7 succ d (X : Int) with
     | some yj =>
       obtain ⟨y,j⟩:=yj
       rw [hscan] at h
       simp only [ya] at h
       have hsc:=hscan
       unfold zf7 at hsc
       rw [ya,hgX] at hsc
       obtain ⟨q1,q2,q3⟩:=zyX hsc
       have hle:=hd.le X hX
       rw [hgX] at hle
       have hy:=hr _ (yr hX) y (List.mem_of_mem_drop q3)
       have hd' : DInv succ ⟨d.seen.set y.toNat true,d.next.set X j,d.out,y :: (X : Int) :: s⟩:=⟨by simpa using hd.seen,by simpa using hd.next,by
         have:=zvz succ hn hs hr hd ⟨x0,x1⟩ (j:=j) (by rw [ya,hgX]; rw [List.length_drop] at q2; omega)
         rwa [ya] at this,fun z hz => by
        rcases yp.1 hz with rfl | hz
        ·exact hy
        ·exact hd.stk z (by rw [hstk]; exact hz)⟩
       obtain ⟨seen',next',vo',vs',row',hx⟩:=ih _ [] vo (vs + 1) o vU vU vU vU vU vU vU vU vU hd' (by simp only [yb]; omega) (by simp only; omega) h
       refine ⟨seen',next',vo',vs',row',?_⟩
       rw [← hx,zg3,zqg,zgu,zg7]
       simp only [yn,zsm]
       have hrd:=zwG succ pred hn hs hr d stale vo vs X s y j a0 a1 a3 a8 a9 a10 a11 a12 a13 hd hX (by omega) (by omega) hscan
       simp only [yb] at hrd ⊢
       rw [hrd]
       simp only [yn,scK,zh7]
       rw [← zqg]
     | none =>
       rw [hscan] at h
       simp only at h
       cases s with
       | nil =>
         simp only [Option.some.injEq] at h
         subst h
         have hrd:=zys succ pred hn hs hr d stale vo vs X a0 a1 a3 a8 a9 a10 a11 a12 a13 hd hX (by simp) (by omega) hscan
         refine ⟨d.seen,d.next.set X succ[X].length,vo + 1,vs,(((X : Int) :: []).reverse ++ stale),?_⟩
         rw [zg3,zqg,zgu,zg7]
         simp only [yn,zsm]
         simp only [yb,ym] at hrd ⊢
         rw [hrd]
         simp only [yn,scK]
         rw [show (d.out ++ [(X : Int)]).length = d.out.length + 1 by simp]
       | cons z s' =>
         simp only [ya] at h
         have hrd:=zzd succ pred hn hs hr d stale vo vs X z s' a0 a1 a3 a8 a9 a10 a11 a12 a13 hd hX (by simp only [yb] at hb1 ⊢; omega) (by omega) hscan
         have hd' : DInv succ ⟨d.seen,d.next.set X (zwv succ X),d.out ++ [(X : Int)],z :: s'⟩:=⟨hd.seen,by simpa using hd.next,by
          have:=zvz succ hn hs hr hd ⟨x0,x1⟩ (j:=zwv succ X) (by rw [ya,hgX,hlX]; exact yae _)
          rwa [ya] at this,fun w hw => hd.stk w (by rw [hstk]; exact yh _ hw)⟩
         obtain ⟨seen',next',vo',vs',row',hx⟩:=ih _ ((X : Int) :: stale) (vo + 1) vs o vU vU vU vU vU vU vU vU vU hd' (by simp only [yb] at hb1 ⊢; omega) (by simp only [yg,yb,ym]; omega) h
         refine ⟨seen',next',vo',vs',row',?_⟩
         rw [← hx,zg3,zqg,zgu,zg7]
         simp only [yn,zsm]
         simp only [yb,yg,ym,hlX] at hrd ⊢
         rw [hrd]
         simp only [yn,scK,zh7]
         rw [← zqg]
end
end AC
namespace AC
open Go Go.A Go.A.Lex
@[go_sem] theorem zp3 (succ pred : List (List Int)) (hs : zjv succ) : call T 148 [.agg [.f (.sl (succ.map rl)),.f (.sl (pred.map rl))]] [] = some (vB (zAp succ pred),[]):=by
  rw [ze (fn:=zig) rfl]
  have hm:=zjI succ hs
  cases e : zbk succ
  ·simp -implicitDefEqProofs only [go_sem,zjf,e] at hm
   simp -implicitDefEqProofs only [go_sem,zig,hm,zAp,e]
  ·have hq:=zle (zM succ) pred [.cells 0 2 [[.f (.sl (succ.map rl)),.f (.sl (pred.map rl))]],.cells 0 2 [[.f (.sl (succ.map rl)),.f (.sl ((zM succ).map rl))]]] (by rw [zb5]; exact hs.1) (zjm succ hs (zgA e))
   simp -implicitDefEqProofs only [go_sem,zjf,e] at hm hq
   simp -implicitDefEqProofs only [go_sem,zig,hm,hq,zAp,e]
theorem zjs : zpZ.length = 64:=rfl
theorem znJ : znW.length = 64:=rfl
def zFi : Go.A.Code:=zr.p1
def zFp : Go.A.Code:=zr.p2.p1
def zFK : Go.A.Code:=zr.p2.p2.p1
def zFa : Go.A.Code:=zr.p2.p2.p2.p1
def zE7 : Go.A.Code:=zr.p2.p2.p2.p2.p1
def zFE : Go.A.Code:=zr.p2.p2.p2.p2.p2.p1
theorem zFG : zr = .seq zFi (.seq zFp (.seq zFK (.seq zFa (.seq zE7 (.seq zFE (.seq (.label 0) zjT)))))):=rfl
theorem zCG (succ pred : List (List Int)) (hs : zjv succ) (hm : zAp succ pred = true) (root : Nat) (hr : root < succ.length) : exec T zFi ⟨[.agg [.f (.sl (succ.map rl)),.f (.sl (pred.map rl))],vI root,.one (.ptr 0 0 0 0),vL [],vU,vU,vU,vU,vU,vU,vU,vU,vU,vU],[obG succ pred],0,0⟩ =
  some (.normal,⟨[.agg [.f (.sl (succ.map rl)),.f (.sl (pred.map rl))],vI root,.one (.ptr 0 0 0 0),vL [],vU,vU,vU,vU,vU,vU,vB false,vU,vU,vU],[obG succ pred],0,0⟩):=by
 have h:=zp3 succ pred hs
 rw [hm] at h
 have h1 : ¬ (root : Int) < 0:=by omega
 have h2 : ¬ (succ.length : Int) ≤ (root : Int):=by omega
 simp -implicitDefEqProofs only [go_sem] at h
 simp -implicitDefEqProofs only [go_sem,zFi,zr,Code.p1,obG,h,h1,h2]
theorem zBj (succ pred : List (List Int)) (root : Nat) (hr : root < 64) (c : Go.A.Code) (a0 a3 a10 : V) : exec T (.seq zFp (.seq zFK (.seq zFa (.seq zE7 (.seq zFE c))))) ⟨[a0,vI root,.one (.ptr 0 0 0 0),a3,vU,vU,vU,vU,vU,vU,a10,vU,vU,vU],[obG succ pred],0,0⟩ =
  exec T c ⟨[a0,vI root,.one (.ptr 0 0 0 0),a3,.one (.ptr 1 0 0 0),.one (.ptr 2 0 0 0),.one (.own 3 0 0 0),.one (.own 4 0 0 1),vU,vU,a10,vU,vU,vU],stO succ pred (zpZ.set root true) znW 0 [] 0 [(root : Int)],0,0⟩:=by
 have hi : ((root : Int) < 64) = True:=by simp; omega
 have hov:=zuJ (e:=zpZ.map cB) (k:=root) (.f (.lit (.bool true))) (by rw [yT,zjs]; exact hr)
 have h2 : (zpZ.map cB).set root (C.f (.lit (.bool true))) = (zpZ.set root true).map cB:=by rw [yz]; rfl
 rw [h2] at hov
 have hle:=zyy (show root < 64 by omega)
 have hB : zFp = .reg [w 4 (.al (zpZ.map cB) [])]:=rfl
 have hC : zFK = .reg [w 5 (.al (znW.map cN) [])]:=rfl
 rw [hB,hC]
 simp -implicitDefEqProofs only [go_sem,zFa,zE7,zFE,zr,Code.p1,Code.p2,obG,stO,zjs,znJ,hi,yk,ya,y2,hov,hle,zj]
@[go_sem] theorem zxb (succ pred : List (List Int)) (hs : zjv succ) (hm : zAp succ pred = true) (root : Nat) (hr : root < succ.length) (k : Nat) (hk : k ≤ 4294967295) (o : List Int) (ho : dfs succ k (zsn root) = some o) :
   call T 100 [.agg [.f (.sl (succ.map rl)),.f (.sl (pred.map rl))],vI root] [] = some (vIs o.reverse,[]):=by
  rw [ze (fn:=ziM) rfl]
  have hmk : zbk succ = true:=by simp only [zAp,yc] at hm; exact hm.1
  obtain ⟨q1,q2,q3⟩:=zfZ hmk
  have hrr : ∀ l ∈ succ,∀ y ∈ l,0 ≤ y ∧ y < (succ.length : Int):=fun l hl y hy => by have:=zmZ _ _ _ (q3 l hl) y hy; omega
  have hd : DInv succ (zsn root):=⟨by simp [zsn,zjs],znJ,fun X hX => by
   have : znW.getD X 0 = 0:=by
    have h64 : X < 64:=by omega
    have h : znW[X]? = some 0:=by
     unfold znW
     rw [yC,if_pos h64]
    rw [yd,h]
    rfl
   simp only [zsn]
   omega,fun x hx => by simp [zsn] at hx; omega⟩
  obtain ⟨seen',next',vo',vs',row',h⟩:=zDx succ pred q2 hs.2 hrr k (zsn root) [] 0 0 o (.agg [.f (.sl (succ.map rl)),.f (.sl (pred.map rl))]) (vI root) (vL []) vU vU (vB false) vU vU vU hd (by simp [zsn]; omega) (by simp [zsn]; omega) ho
  have e1 : exec T (.scope zr) ⟨[.agg [.f (.sl (succ.map rl)),.f (.sl (pred.map rl))],vI root,.one (.ptr 0 0 0 0),vL [],vU,vU,vU,vU,vU,vU,vU,vU,vU,vU],[obG succ pred],0,0⟩ = some (.ret,⟨[vU,vU,vU,.one (.own 3 vo' 0 o.length),vU,vU,vU,vU,vU,vU,vU,vU,vU,vU],stO succ pred seen' next' vo' o.reverse vs' row',0,0⟩):=by
   rw [← h,zmH,zg3,zg3]
   congr 1
   rw [zqg,zgu,zg7]
   simp only [yn,zsm]
   rw [zFG,zgu,zCG succ pred hs hm root hr]
   simp only [yn,zsm]
   rw [zBj succ pred root (by omega),zgu,zqK]
   rfl
  have htk : (o.reverse.map zj).take o.length = o.reverse.map zj:=yl (by simp)
  simp -implicitDefEqProofs only [go_sem,obG,stO] at e1
  simp -implicitDefEqProofs only [go_sem,ziM,e1,htk,zdh]
end AC
namespace AC
open Go Go.A Go.A.Lex
def zFD : List C → Bool
 | [.f (.lit (.int .i64 k))] => decide (k = -2)
 | _ => false
def zCq (n : Nat) : Bool:=match zfy T (zN T 3000) 230 [vL [[ei (-2)]],vI n] [] with
 | some (.one (.own 0 0 0 m),[.cells 0 1 rows]) => decide (m = n) && (decide (rows.length = n) && rows.all zFD)
 | _ => false
set_option maxRecDepth 100000 in
theorem zCF : ((yah 64).all fun n => zCq (n + 1)) = true:=by kernel_rfl
theorem zC7 {r : List C} (h : zFD r = true) : r = zj (-2):=by
 unfold zFD at h
 split at h
 ·simp only [decide_eq_true_eq] at h
  subst h
  rfl
 ·cases h
theorem zuB (n : Nat) (h1 : 1 ≤ n) (hn : n ≤ 64) : call T 230 [vL [[ei (-2)]],vI n] [] = some (.one (.own 0 0 0 n),[.cells 0 1 ((yo n (-2 : Int)).map zj)]):=by
 have h:=yq.1 zCF (n - 1) (List.mem_range.2 (by omega))
 rw [show n - 1 + 1 = n by omega] at h
 unfold zCq at h
 split at h
 ·rename_i m rows he
  simp only [yc,decide_eq_true_eq,yq] at h
  obtain ⟨rfl,h2,h3⟩:=h
  have : rows = (yo m (-2 : Int)).map zj:=by
   rw [y3]
   exact List.eq_replicate_iff.2 ⟨h2,fun r hr => zC7 (h3 r hr)⟩
  rw [← this]
  exact zkm he
 ·cases h
theorem zjH {n : Nat} {a : Int} (h : inR n a = true) : 0 ≤ a ∧ a < (n : Int) ∧ ¬ a < 0 ∧ ¬ (n : Int) ≤ a:=by
 simp only [inR,yc,decide_eq_true_eq] at h
 omega
section
variable (t at' : List Int)
theorem zBI : ∀ (r : Nat) (a b c : Int) (a4 a5 a6 a7 : V),zpc t at' r a b = some c →
  exec T zlu ⟨[vIs t,vIs at',vI a,vI b,a4,a5,a6,a7],[],0,0⟩ = some (.exit 2,⟨[vIs t,vIs at',vI c,vI b,vU,vU,vU,vU],[],0,0⟩):=by
 intro r
 induction r with
 | zero => intro a b c _ _ _ _ h; simp [zpc] at h
 | succ r ih =>
   intro a b c a4 a5 a6 a7 h
   rw [zpc] at h
   split at h
   ·rename_i hr
    simp only [yc] at hr
    obtain ⟨h1,h2,h3⟩:=hr
    obtain ⟨p1,p2,p3,p4⟩:=zjH h1
    obtain ⟨q1,q2,q3,q4⟩:=zjH h2
    obtain ⟨s1,s2,s3,s4⟩:=zjH h3
    rw [xl zlu rfl,zpb]
    split at h
    ·rename_i hc
     have:=ih _ b c vU vU vU vU h
     simp -implicitDefEqProofs only [go_sem] at this
     simp -implicitDefEqProofs only [go_sem,p1,q1,s1,ztS p3 p4,ztS q3 q4,ztS s3 s4,hc,this]
    ·rename_i hc
     injection h with h
     subst h
     simp -implicitDefEqProofs only [go_sem,p1,q1,s1,ztS p3 p4,ztS q3 q4,ztS s3 s4,hc]
   ·cases h
theorem zA0 : ∀ (r : Nat) (a b c : Int) (a4 a5 a6 a7 : V),zpc t at' r b a = some c →
  exec T zkY ⟨[vIs t,vIs at',vI a,vI b,a4,a5,a6,a7],[],0,0⟩ = some (.exit 4,⟨[vIs t,vIs at',vI a,vI c,vU,vU,vU,vU],[],0,0⟩):=by
 intro r
 induction r with
 | zero => intro a b c _ _ _ _ h; simp [zpc] at h
 | succ r ih =>
   intro a b c a4 a5 a6 a7 h
   rw [zpc] at h
   split at h
   ·rename_i hr
    simp only [yc] at hr
    obtain ⟨h1,h2,h3⟩:=hr
    obtain ⟨p1,p2,p3,p4⟩:=zjH h1
    obtain ⟨q1,q2,q3,q4⟩:=zjH h2
    obtain ⟨s1,s2,s3,s4⟩:=zjH h3
    rw [xl zkY rfl,zok]
    split at h
    ·rename_i hc
     have:=ih a _ c vU vU vU vU h
     simp -implicitDefEqProofs only [go_sem] at this
     simp -implicitDefEqProofs only [go_sem,p1,q1,s1,ztS p3 p4,ztS q3 q4,ztS s3 s4,hc,this]
    ·rename_i hc
     injection h with h
     subst h
     simp -implicitDefEqProofs only [go_sem,p1,q1,s1,ztS p3 p4,ztS q3 q4,ztS s3 s4,hc]
   ·cases h
theorem zDG (K : Nat) : ∀ (r : Nat) (a b c : Int) (a4 a5 a6 a7 : V),ztx t at' K r a b = some c →
  exec T zlg ⟨[vIs t,vIs at',vI a,vI b,a4,a5,a6,a7],[],0,0⟩ = some (.exit 0,⟨[vU,vU,vI c,vU,vU,vU,vU,vU],[],0,0⟩):=by
 intro r
 induction r with
 | zero => intro a b c _ _ _ _ h; simp [ztx] at h
 | succ r ih =>
   intro a b c a4 a5 a6 a7 h
   rw [ztx] at h
   rw [xl zlg rfl,zoE]
   split at h
   ·rename_i hc
    injection h with h
    subst h
    subst hc
    simp -implicitDefEqProofs only [go_sem]
   ·rename_i hc
    split at h
    ·cases h
    ·rename_i a' h1
     split at h
     ·cases h
     ·rename_i b' h2
      have e1:=fun a4 a5 a6 a7 => zBI t at' K a b a' a4 a5 a6 a7 h1
      have e2:=fun a4 a5 a6 a7 => zA0 t at' K a' b b' a4 a5 a6 a7 h2
      have:=ih a' b' c vU vU vU vU h
      simp -implicitDefEqProofs only [go_sem] at e1 e2 this
      simp -implicitDefEqProofs only [go_sem,hc,e1,e2,this]
theorem zyD (K r : Nat) (a b c : Int) (h : ztx t at' K r a b = some c) : call T 231 [vIs t,vIs at',vI a,vI b] [] = some (vI c,[]):=by
 rw [ze (fn:=zna) rfl]
 have:=fun a4 a5 a6 a7 => zDG t at' K r a b c a4 a5 a6 a7 h
 simp -implicitDefEqProofs only [go_sem] at this
 simp -implicitDefEqProofs only [go_sem,zna,this]
end
end AC
namespace AC
open Go Go.A Go.A.Lex
theorem zus {t : List Int} {a : Int} (h0 : ¬ a < 0) (h1 : ¬ (t.length : Int) ≤ a) : (t.map zj)[a.toNat]? = some [.f (.lit (.int .i64 (tr t a)))]:=by
 have : a.toNat < t.length:=by omega
 simp [tr,this,zj]
section
variable (succ pred : List (List Int)) (hpl : pred.length = succ.length) (hps : ∀ l ∈ pred,l.length ≤ 4294967296) (n : Nat) (hn : n = succ.length) (hn64 : n ≤ 64) (root : Int) (order tail at' : List Int) (hat : at'.length = n) (htl : tail.length ≤ 4294967296)
abbrev stT (succ pred : List (List Int)) (t at' : List Int) : zd:=[obG succ pred,.cells 0 1 (t.map zj),.cells 0 1 (at'.map zj)]
include hpl hps hn hn64 hat htl
theorem zDc (K : Nat) (t : List Int) (ht : t.length = n) (x : Int) (kx : Int) (ps : List Int) (hps0 : ps.length ≤ 4294967296) : ∀ (d k : Nat) (b c : Int) (a0 a3 a5 a8 a9 a12 a13 a14 a15 a16 a17 a21 a25 a26 a27 a28 : V),ps.length - k = d → k ≤ ps.length → zma t at' K (ps.drop k) b = some c →
  exec T ziI ⟨[a0,vI root,.one (.ptr 0 0 0 0),a3,vIs order,a5,.one (.own 1 0 0 n),.one (.own 2 0 0 n),a8,a9,vI x,vI b,a12,a13,a14,a15,a16,a17,vIs tail,vI tail.length,vI kx,a21,vIs ps,vI ps.length,vI k,a25,a26,a27,a28],stT succ pred t at',0,0⟩ =
   some (.exit 4,⟨[vU,vI root,.one (.ptr 0 0 0 0),vU,vIs order,vU,.one (.own 1 0 0 n),.one (.own 2 0 0 n),vU,vU,vI x,vI c,vU,vU,vU,vU,vU,vU,vIs tail,vI tail.length,vI kx,vU,vU,vU,vU,vU,vU,vU,vU],stT succ pred t at',0,0⟩):=by
 intro d
 have tk1 : (t.map zj).take n = t.map zj:=yl (by simp; omega)
 have tk2 : (at'.map zj).take n = at'.map zj:=yl (by simp; omega)
 induction d with
 | zero =>
   intro k b c a0 a3 a5 a8 a9 a12 a13 a14 a15 a16 a17 a21 a25 a26 a27 a28 h1 h2 h
   have hk : k = ps.length:=by omega
   subst hk
   rw [yH] at h
   simp only [zma,Option.some.injEq] at h
   subst h
   rw [xl ziI rfl,zlf]
   simp -implicitDefEqProofs only [go_sem,stT,obG,yO]
 | succ d ih =>
   intro k b c a0 a3 a5 a8 a9 a12 a13 a14 a15 a16 a17 a21 a25 a26 a27 a28 h1 h2 h
   have hk : k < ps.length:=by omega
   have hd : ps.drop k = ps[k] :: ps.drop (k + 1):=yw hk
   rw [hd,zma] at h
   split at h
   ·rename_i hr
    obtain ⟨p1,p2,p3,p4⟩:=zjH hr
    have p2' : ps[k] < (n : Int):=by omega
    rw [xl ziI rfl,zlf]
    split at h
    ·rename_i c1
     have:=ih (k + 1) b c vU vU vU vU vU vU vU vU vU vU vU vU vU vU vU vU (by omega) (by omega) h
     simp -implicitDefEqProofs only [go_sem,stT,obG] at this
     simp -implicitDefEqProofs only [go_sem,stT,obG,ilt hk,zp hk,ri,p1,p2',zus p3 p4,c1,za hk hps0,this]
    ·rename_i c1
     split at h
     ·rename_i c2
      subst c2
      have:=ih (k + 1) ps[k] c vU vU vU vU vU vU vU vU vU vU vU vU vU vU vU vU (by omega) (by omega) h
      simp -implicitDefEqProofs only [go_sem,stT,obG] at this
      simp -implicitDefEqProofs only [go_sem,stT,obG,ilt hk,zp hk,ri,p1,p2',zus p3 p4,c1,za hk hps0,this]
     ·rename_i c2
      split at h
      ·cases h
      ·rename_i m hm
       have hc:=zyD t at' K K b ps[k] m hm
       have:=ih (k + 1) m c vU vU vU vU vU vU vU vU vU vU vU vU vU vU vU vU (by omega) (by omega) h
       simp -implicitDefEqProofs only [go_sem,stT,obG] at this hc
       simp -implicitDefEqProofs only [go_sem,stT,obG,ilt hk,zp hk,ri,p1,p2',zus p3 p4,c1,c2,tk1,tk2,zdh,hc,za hk hps0,this]
   ·cases h
theorem zDz (K : Nat) (t : List Int) (ht : t.length = n) : ∀ (d k : Nat) (res : Option (Int × Int)) (a0 a3 a5 a8 a9 a10 a11 a12 a13 a14 a15 a16 a17 a21 a22 a23 a24 a25 a26 a27 a28 : V),tail.length - k = d → k ≤ tail.length → zrf pred t at' K (tail.drop k) = some res →
  exec T ziN ⟨[a0,vI root,.one (.ptr 0 0 0 0),a3,vIs order,a5,.one (.own 1 0 0 n),.one (.own 2 0 0 n),a8,a9,a10,a11,a12,a13,a14,a15,a16,a17,vIs tail,vI tail.length,vI k,a21,a22,a23,a24,a25,a26,a27,a28],stT succ pred t at',0,0⟩ =
   some (match res with
    | none => (.exit 2,⟨[vU,vI root,vU,vU,vU,vU,.one (.own 1 0 0 n),vU,vU,vU,vU,vU,vU,vU,vU,vU,vU,vU,vU,vU,vU,vU,vU,vU,vU,vU,vU,vU,vU],stT succ pred t at',0,0⟩)
    | some (x,b) => (.goto 0,⟨[vU,vI root,.one (.ptr 0 0 0 0),vU,vIs order,vU,.one (.own 1 0 0 n),.one (.own 2 0 0 n),vU,vU,vU,vU,vU,vU,vU,vU,vU,vU,vU,vU,vU,vU,vU,vU,vU,vU,vU,vU,vU],stT succ pred (t.set x.toNat b) at',0,0⟩)):=by
 intro d
 induction d with
 | zero =>
   intro k res a0 a3 a5 a8 a9 a10 a11 a12 a13 a14 a15 a16 a17 a21 a22 a23 a24 a25 a26 a27 a28 h1 h2 h
   have hk : k = tail.length:=by omega
   subst hk
   rw [yH] at h
   simp only [zrf,Option.some.injEq] at h
   subst h
   rw [xl ziN rfl,zlr]
   simp -implicitDefEqProofs only [go_sem,stT,obG,yO]
 | succ d ih =>
   intro k res a0 a3 a5 a8 a9 a10 a11 a12 a13 a14 a15 a16 a17 a21 a22 a23 a24 a25 a26 a27 a28 h1 h2 h
   have hk : k < tail.length:=by omega
   have hd : tail.drop k = tail[k] :: tail.drop (k + 1):=yw hk
   rw [hd,zrf] at h
   split at h
   ·rename_i hr
    obtain ⟨p1,p2,p3,p4⟩:=zjH hr
    have p2' : tail[k] < (n : Int):=by omega
    have hpx : tail[k].toNat < pred.length:=by omega
    have hgp : pred.getD tail[k].toNat [] = pred[tail[k].toNat]:=by simp [hpx]
    rw [hgp] at h
    split at h
    ·cases h
    ·rename_i b hb
     have hl2:=fun a0 a3 a5 a8 a9 a12 a13 a14 a15 a16 a17 a21 a25 a26 a27 a28 => zDc succ pred hpl hps n hn hn64 root order tail at' hat htl K t ht tail[k] k pred[tail[k].toNat] (hps _ (yr hpx)) _ 0 (-2) b a0 a3 a5 a8 a9 a12 a13 a14 a15 a16 a17 a21 a25 a26 a27 a28 rfl (yZ _) hb
     rw [xl ziN rfl,zlr]
     simp only [ys] at hl2
     split at h
     ·rename_i c1
      have:=ih (k + 1) res vU vU vU vU vU vU vU vU vU vU vU vU vU vU vU vU vU vU vU vU vU (by omega) (by omega) h
      simp -implicitDefEqProofs only [go_sem,stT,obG] at this hl2
      simp -implicitDefEqProofs only [go_sem,stT,obG,ilt hk,zp hk,zp hpx,ri,rl,p1,p2',hl2,zus p3 p4,c1,za hk htl,this]
     ·rename_i c1
      injection h with h
      subst h
      have hset : (t.map zj).set tail[k].toNat [C.f (.lit (.int .i64 b))] = (t.set tail[k].toNat b).map zj:=by rw [yz]; rfl
      simp -implicitDefEqProofs only [go_sem,stT,obG] at hl2
      simp -implicitDefEqProofs only [go_sem,stT,obG,ilt hk,zp hk,zp hpx,ri,rl,p1,p2',hl2,zus p3 p4,c1,hset]
   ·cases h
end
end AC
namespace AC
open Go Go.A Go.A.Lex
def zmd : Go.A.Code:=zae.p2.p2.p2.p2.p2.p2.p2
theorem zz0 : zkV = .seq .skip zmd:=rfl
section
variable (succ pred : List (List Int)) (hpl : pred.length = succ.length) (hps : ∀ l ∈ pred,l.length ≤ 4294967296) (n : Nat) (hn : n = succ.length) (hn64 : n ≤ 64) (root : Nat) (hroot : root < n) (tail : List Int) (htl : tail.length ≤ 4294967295)
include hpl hps hn hn64
theorem zDI (order : List Int) (hol : order.length ≤ 4294967296) (ho : ∀ x ∈ order,0 ≤ x ∧ x < (n : Int)) (t : List Int) : ∀ (d k : Nat) (at' : List Int) (a0 a3 a5 a8 a9 a10 a11 a12 a13 a17 a18 a19 a20 a21 a22 a23 a24 a25 a26 a27 a28 : V),at'.length = n → order.length - k = d → k ≤ order.length →
  exec T zii ⟨[a0,vI root,.one (.ptr 0 0 0 0),a3,vIs order,a5,.one (.own 1 0 0 n),.one (.own 2 0 0 n),a8,a9,a10,a11,a12,a13,vIs order,vI order.length,vI k,a17,a18,a19,a20,a21,a22,a23,a24,a25,a26,a27,a28],stT succ pred t at',0,0⟩ =
   some (.exit 0,⟨[vU,vI root,.one (.ptr 0 0 0 0),vU,vIs order,vU,.one (.own 1 0 0 n),.one (.own 2 0 0 n),vU,vU,vU,vU,vU,vU,vU,vU,vU,vU,vU,vU,vU,vU,vU,vU,vU,vU,vU,vU,vU],stT succ pred t (zjr k (order.drop k) at'),0,0⟩):=by
 intro d
 induction d with
 | zero =>
   intro k at' a0 a3 a5 a8 a9 a10 a11 a12 a13 a17 a18 a19 a20 a21 a22 a23 a24 a25 a26 a27 a28 ha h1 h2
   have hk : k = order.length:=by omega
   subst hk
   rw [xl zii rfl,zlc]
   simp -implicitDefEqProofs only [go_sem,stT,obG,yO,yH,zjr]
 | succ d ih =>
   intro k at' a0 a3 a5 a8 a9 a10 a11 a12 a13 a17 a18 a19 a20 a21 a22 a23 a24 a25 a26 a27 a28 ha h1 h2
   have hk : k < order.length:=by omega
   have hd : order.drop k = order[k] :: order.drop (k + 1):=yw hk
   obtain ⟨p1,p2⟩:=ho _ (yr hk)
   have hc:=zus (t:=at') (a:=order[k]) (by omega) (by omega)
   have hset : (at'.map zj).set order[k].toNat [C.f (.lit (.int .i64 (k : Int)))] = (at'.set order[k].toNat (k : Int)).map zj:=by rw [yz]; rfl
   have:=ih (k + 1) (at'.set order[k].toNat (k : Int)) vU vU vU vU vU vU vU vU vU vU vU vU vU vU vU vU vU vU vU vU vU (by simpa using ha) (by omega) (by omega)
   rw [xl zii rfl,zlc,hd,zjr]
   simp -implicitDefEqProofs only [go_sem,stT,obG] at this
   simp -implicitDefEqProofs only [go_sem,stT,obG,ilt hk,zp hk,ri,p1,p2,hc,hset,za hk hol,this]
include hroot htl
theorem zp6 (K : Nat) (at' : List Int) (hat : at'.length = n) (t : List Int) (ht : t.length = n) (o0 : Int) (res : Option (Int × Int)) (h : zrf pred t at' K tail = some res)
  (a0 a3 a5 a8 a9 a10 a11 a12 a13 a14 a15 a16 a17 a18 a19 a20 a21 a22 a23 a24 a25 a26 a27 a28 : V) :
  exec T zmd ⟨[a0,vI root,.one (.ptr 0 0 0 0),a3,vIs (o0 :: tail),a5,.one (.own 1 0 0 n),.one (.own 2 0 0 n),a8,a9,a10,a11,a12,a13,a14,a15,a16,a17,a18,a19,a20,a21,a22,a23,a24,a25,a26,a27,a28],stT succ pred t at',0,0⟩ =
   some (match res with
    | none => (.ret,⟨[vU,vU,vU,.one (.own 1 0 0 n),vU,vU,vU,vU,vU,vU,vU,vU,vU,vU,vU,vU,vU,vU,vU,vU,vU,vU,vU,vU,vU,vU,vU,vU,vU],stT succ pred (t.set root (-1)) at',0,0⟩)
    | some (x,b) => (.goto 0,⟨[vU,vI root,.one (.ptr 0 0 0 0),vU,vIs (o0 :: tail),vU,.one (.own 1 0 0 n),.one (.own 2 0 0 n),vU,vU,vU,vU,vU,vU,vU,vU,vU,vU,vU,vU,vU,vU,vU,vU,vU,vU,vU,vU,vU],stT succ pred (t.set x.toNat b) at',0,0⟩)):=by
 have h3:=fun a0 a3 a5 a8 a9 a10 a11 a12 a13 a14 a15 a16 a17 a21 a22 a23 a24 a25 a26 a27 a28 => zDz succ pred hpl hps n hn hn64 root (o0 :: tail) tail at' hat (by omega) K t ht tail.length 0 res a0 a3 a5 a8 a9 a10 a11 a12 a13 a14 a15 a16 a17 a21 a22 a23 a24 a25 a26 a27 a28 (by omega) (by omega) h
 simp only [ys] at h3
 have hri : (ri o0).length = 1:=rfl
 have e1 : (ri o0 :: tail.map ri).take (tail.length + 1) = ri o0 :: tail.map ri:=yl (by simp)
 have e2 : (1 ≤ tail.length + 1) = True:=by simp
 have hrt : ((root : Int) < (n : Int)) = True:=by simp; omega
 have hset : (t.map zj).set root [C.f (.lit (.int .i64 (-1)))] = (t.set root (-1)).map zj:=by rw [yz]; rfl
 have hc:=zus (t:=t) (a:=(root : Int)) (by omega) (by omega)
 rw [ya] at hc
 cases res with
 | none =>
   simp -implicitDefEqProofs only [go_sem,stT,obG] at h3
   simp -implicitDefEqProofs only [go_sem,stT,obG,zmd,zae,Code.p2,y7,hri,zup,e1,e2,h3,hrt,yk,ya,hc,hset]
 | some xb =>
   obtain ⟨x,b⟩:=xb
   simp -implicitDefEqProofs only [go_sem,stT,obG] at h3
   simp -implicitDefEqProofs only [go_sem,stT,obG,zmd,zae,Code.p2,y7,hri,zup,e1,e2,h3]
theorem zBJ (K : Nat) (at' : List Int) (hat : at'.length = n) (o0 : Int) : ∀ (r : Nat) (t t' : List Int) (a0 a3 a5 a8 a9 a10 a11 a12 a13 a14 a15 a16 a17 a18 a19 a20 a21 a22 a23 a24 a25 a26 a27 a28 : V),t.length = n → zhb pred at' K tail r t = some t' →
  exec T (.sc zae zkV) ⟨[a0,vI root,.one (.ptr 0 0 0 0),a3,vIs (o0 :: tail),a5,.one (.own 1 0 0 n),.one (.own 2 0 0 n),a8,a9,a10,a11,a12,a13,a14,a15,a16,a17,a18,a19,a20,a21,a22,a23,a24,a25,a26,a27,a28],stT succ pred t at',0,0⟩ =
   some (.ret,⟨[vU,vU,vU,.one (.own 1 0 0 n),vU,vU,vU,vU,vU,vU,vU,vU,vU,vU,vU,vU,vU,vU,vU,vU,vU,vU,vU,vU,vU,vU,vU,vU,vU],stT succ pred (t'.set root (-1)) at',0,0⟩):=by
 intro r
 induction r with
 | zero => intro t t' _ _ _ _ _ _ _ _ _ _ _ _ _ _ _ _ _ _ _ _ _ _ _ _ _ h; simp [zhb] at h
 | succ r ih =>
   intro t t' a0 a3 a5 a8 a9 a10 a11 a12 a13 a14 a15 a16 a17 a18 a19 a20 a21 a22 a23 a24 a25 a26 a27 a28 ht h
   rw [zhb] at h
   rw [zg3,zz0,zgu,zg7]
   simp only [yn,zsm]
   split at h
   ·cases h
   ·rename_i hp
    injection h with h
    subst h
    rw [zp6 succ pred hpl hps n hn hn64 root hroot tail htl K at' hat t ht o0 none hp]
    simp only [yn,scK]
   ·rename_i x b hp
    rw [zp6 succ pred hpl hps n hn hn64 root hroot tail htl K at' hat t ht o0 (some (x,b)) hp]
    simp only [yn,scK,zpP]
    exact ih _ _ _ _ _ _ _ _ _ _ _ _ _ _ _ _ _ _ _ _ _ _ _ _ _ _ (by simpa using ht) h
end
def zD6 : Go.A.Code:=zae.p1
def zEo : Go.A.Code:=zae.p2.p1
def zEJ : Go.A.Code:=zae.p2.p2.p1
def zEg : Go.A.Code:=zae.p2.p2.p2.p1
def zEw : Go.A.Code:=zae.p2.p2.p2.p2.p1
def zEF : Go.A.Code:=zae.p2.p2.p2.p2.p2.p1
theorem zFt : zae = .seq zD6 (.seq zEo (.seq zEJ (.seq zEg (.seq zEw (.seq zEF (.seq (.label 0) zmd)))))):=rfl
theorem zz2 (succ pred : List (List Int)) (hs : zjv succ) (hm : zAp succ pred = true) (root : Nat) (hr : root < succ.length) (k : Nat) (hk : k ≤ 4294967295) (o : List Int) (ho : dfs succ k (zsn root) = some o)
  (o0 : Int) (tail : List Int) (hrev : o.reverse = o0 :: tail) (hor : ∀ x ∈ o,0 ≤ x ∧ x < (succ.length : Int)) (hol : o.length ≤ 4294967295) (K r : Nat) (t : List Int) (ht : zhb pred (at0 succ.length o.reverse) K tail r (zkt succ.length root) = some t) :
  call T 195 [.agg [.f (.sl (succ.map rl)),.f (.sl (pred.map rl))],vI root] [] = some (vIs (t.set root (-1)),[]):=by
 rw [ze (fn:=zmR) rfl]
 have hmk : zbk succ = true ∧ zM succ = pred:=by simpa [zAp] using hm
 obtain ⟨q1,q2,q3⟩:=zfZ hmk.1
 have hpl : pred.length = succ.length:=by rw [← hmk.2,zb5]
 have hps : ∀ l ∈ pred,l.length ≤ 4294967296:=by rw [← hmk.2]; exact zjm succ hs (zgA hmk.1)
 have hO:=zxb succ pred hs hm root hr k hk o ho
 have hR:=zuB succ.length q1 q2
 have htl : tail.length ≤ 4294967295:=by
  have : o.reverse.length = tail.length + 1:=by rw [hrev]; rfl
  rw [yB] at this
  omega
 have hf:=fun a0 a3 a5 a8 a9 a10 a11 a12 a13 a17 a18 a19 a20 a21 a22 a23 a24 a25 a26 a27 a28 => zDI succ pred hpl hps succ.length rfl q2 root (o0 :: tail) (by simp only [yb]; omega) (fun x hx => hor x (List.mem_reverse.1 (by rw [hrev]; exact hx))) (yo succ.length (-2)) (o0 :: tail).length 0 (yo succ.length 0) a0 a3 a5 a8 a9 a10 a11 a12 a13 a17 a18 a19 a20 a21 a22 a23 a24 a25 a26 a27 a28 (by simp) rfl (yZ _)
 simp only [yM,ys] at hf
 rw [hrev] at hO ht
 have hrt : ((root : Int) < (succ.length : Int)) = True:=by simp; omega
 have hset : ((yo succ.length (-2 : Int)).map zj).set root [C.f (.lit (.int .i64 (root : Int)))] = (zkt succ.length root).map zj:=by rw [zkt,yz]; rfl
 have hcell : ((yo succ.length (-2 : Int)).map zj)[root]? = some [.f (.lit (.int .i64 (-2)))]:=by simp [hr,zj]
 have hat : (at0 succ.length (o0 :: tail)).length = succ.length:=by rw [at0,ziF]; simp
 have hlim : (succ.length : Int) ≤ (LIM : Int):=by unfold LIM; omega
 have hz : yo succ.length [C.f (.lit (.int .i64 0))] = (yo succ.length (0 : Int)).map zj:=by rw [y3]; rfl
 have hnz : ¬ ((tail.length + 1 : Nat) : Int) = 0:=by omega
 have e1 : exec T (.scope zae) ⟨[.agg [.f (.sl (succ.map rl)),.f (.sl (pred.map rl))],vI root,.one (.ptr 0 0 0 0),vL [],vU,vU,vU,vU,vU,vU,vU,vU,vU,vU,vU,vU,vU,vU,vU,vU,vU,vU,vU,vU,vU,vU,vU,vU,vU],[obG succ pred],0,0⟩ = some (.ret,⟨[vU,vU,vU,.one (.own 1 0 0 succ.length),vU,vU,vU,vU,vU,vU,vU,vU,vU,vU,vU,vU,vU,vU,vU,vU,vU,vU,vU,vU,vU,vU,vU,vU,vU],stT succ pred (t.set root (-1)) (at0 succ.length (o0 :: tail)),0,0⟩):=by
  have h:=fun a0 a3 a5 a8 a9 a10 a11 a12 a13 a14 a15 a16 a17 a18 a19 a20 a21 a22 a23 a24 a25 a26 a27 a28 => zBJ succ pred hpl hps succ.length rfl q2 root hr tail htl K (at0 succ.length (o0 :: tail)) hat o0 r (zkt succ.length root) t a0 a3 a5 a8 a9 a10 a11 a12 a13 a14 a15 a16 a17 a18 a19 a20 a21 a22 a23 a24 a25 a26 a27 a28 (by simp [zkt]) ht
  rw [← h vU vU vU vU vU vU vU vU vU vU vU vU vU vU vU vU vU vU vU vU vU vU vU vU]
  rw [zmH,zg3,zg3]
  congr 1
  rw [zz0,zgu,zg7]
  simp only [yn,zsm]
  rw [zFt]
  have hdt : zEg = .regd [] [⟨.loc,.bsl .fz 1 [[.f (.lit (.int .i64 0))]] [(0,.c (vI (-2)))],none⟩,⟨.loc,.mv (.s 5),none⟩,⟨.loc,.call .ck (.c (.one (.fn 230 [] []))) [.l 1,.l 0],none⟩,⟨.loc,.mv (.s 5),none⟩,⟨.loc,.mks [.f (.lit (.int .i64 0))] none (.l 0),none⟩,⟨.slot 6,.mv (.l 2),none⟩,⟨.slot 7,.mv (.l 1),none⟩]:=rfl
  have hlr : (yag zj (yo succ.length (-2 : Int))).map (C.shifts 1) = yag zj (yo succ.length (-2 : Int)):=by
   rw [List.map_map]
   rfl
  simp -implicitDefEqProofs only [go_sem,obG,stT] at hO hR hf
  simp -implicitDefEqProofs only [go_sem,obG,stT,zD6,zEo,zEJ,hdt,zEw,zEF,zae,Code.p1,Code.p2,hO,hR,hnz,hlim,yk,ya,hz,hlr,hf,hrt,hcell,hset]
  rfl
 have htk : ((t.set root (-1)).map zj).take succ.length = (t.set root (-1)).map zj:=yl (by have:=zkO ht; simp [zkt] at this; simp; omega)
 simp -implicitDefEqProofs only [go_sem,obG,stT] at e1
 simp -implicitDefEqProofs only [go_sem,zmR,e1,htk,zdh]
end AC
namespace AC
open Go Go.A Go.A.Lex
open Dm
theorem zte {α : Type} (k k' : Int) (v : α) : ∀ D : List (Int × α),getM k (zk1 k' v D) = if k' = k then some v else getM k D
 | [] => by by_cases c : k' = k <;> simp [zk1,getM,c]
 | e :: D => by
   rw [zk1]
   by_cases c : e.1 = k'
   ·rw [if_pos c,getM,getM]
    by_cases d : k' = k
    ·rw [if_pos d,if_pos d]
    ·rw [if_neg d,if_neg d,if_neg (fun h => d (c.symm.trans h))]
   ·rw [if_neg c,getM,getM,zte k k' v D]
    by_cases d : e.1 = k
    ·rw [if_pos d,if_pos d,if_neg (fun h => c (d.trans h.symm))]
    ·rw [if_neg d,if_neg d]
def toP (u : Use) : PDef:=⟨u.block,u.at',u.shape⟩
def lk (ds : List Use) (v : Int) : Option PDef:=(ds.find? fun u => decide (u.v = v)).map toP
def Rep (D : zj3) (ds : List Use) : Prop:=∀ v,getM v D = lk ds v
theorem zEC (ds : List Use) (u : Use) (v : Int) : lk (ds ++ [u]) v = if (lk ds v).isSome = true then lk ds v else if u.v = v then some (toP u) else none:=by
 unfold lk
 rw [List.find?_append]
 cases h : ds.find? (fun u => decide (u.v = v)) with
 | some x => simp
 | none =>
   by_cases c : u.v = v
   ·simp [c]
   ·simp [c]
theorem zu1 {D : zj3} {ds : List Use} (R : Rep D ds) (u : Use) (h : (lk ds u.v).isNone = true) : Rep (zk1 u.v (toP u) D) (ds ++ [u]):=by
 intro v
 rw [zte,zEC,R v]
 by_cases c : u.v = v
 ·subst c
  have : (lk ds u.v).isSome = false:=by
   cases e : lk ds u.v
   ·rfl
   ·rw [e] at h; cases h
  rw [if_pos rfl,this,if_neg (by simp),if_pos rfl]
 ·rw [if_neg c,if_neg c]
  cases e : lk ds v <;> simp
def zgh : List Use → List Use → Bool
 | _,[] => true
 | pre,u :: r => (value u.v && (lk pre u.v).isNone) && zgh (pre ++ [u]) r
theorem zmv : ∀ (a b pre : List Use),zgh pre (a ++ b) = (zgh pre a && zgh (pre ++ a) b)
 | [],b,pre => by rw [yI,List.append_nil,zgh,y4]
 | u :: a,b,pre => by
   rw [y8,zgh,zgh,zmv a b]
   simp only [Bool.and_assoc,yu,yy]
theorem zmX {ds : List Use} {v : Int} : (lk ds v).isNone = true ↔ ∀ u ∈ ds,u.v ≠ v:=by
 unfold lk
 rw [Option.isNone_map,Option.isNone_iff_eq_none,List.find?_eq_none]
 simp
theorem zv1 (v : Int) : ∀ (pre : List Use) (u : Use) (r : List Use) (k : Nat),u.v = v → (zh v k (pre ++ u :: r) = ((k + pre.length : Nat) : Int) ↔ ∀ x ∈ pre,x.v ≠ v)
 | [],u,r,k,h => by simp [zh,h]
 | x :: pre,u,r,k,h => by
   rw [y8,zh]
   by_cases c : x.v = v
   ·rw [if_pos c]
    constructor
    ·intro e
     simp only [yb] at e
     omega
    ·intro e
     exact absurd c (e x yf)
   ·rw [if_neg c]
    have ih:=zv1 v pre u r (k + 1) h
    rw [show k + 1 + pre.length = k + (x :: pre).length by simp only [yb]; omega] at ih
    rw [ih]
    constructor
    ·intro e y hy
     rcases yp.1 hy with rfl | hy
     ·exact c
     ·exact e y hy
    ·exact fun e y hy => e y (yh _ hy)
theorem zq9 (defs : List Use) : ∀ (r pre : List Use),defs = pre ++ r → zfs defs pre.length r = zgh pre r
 | [],_,_ => rfl
 | u :: r,pre,h => by
   have ih:=zq9 defs r (pre ++ [u]) (by rw [h]; simp)
   rw [yg,List.length_singleton] at ih
   rw [zfs,zgh,ih]
   congr 2
   have h1:=zv1 u.v pre u r 0 rfl
   rw [← h,yF] at h1
   rw [yaa,decide_eq_true_eq,h1,zmX]
theorem zmb {v : Int} : value v = true ↔ ¬ (v < 1 ∨ 1023 < v):=by
 unfold value
 rw [yc,decide_eq_true_eq,decide_eq_true_eq]
 omega
theorem zqA : ∀ (l : List Int) (k : Nat) (D : zj3) (pre : List Use),Rep D pre → (∀ u ∈ pre,u.v ≤ (k : Int)) → k + l.length ≤ 16 → Rep (zd9 k D l) (pre ++ zaJ k l) ∧ zgh pre (zaJ k l) = true
 | [],k,D,pre,R,_,_ => by simpa [zd9,zaJ,zgh] using R
 | b :: l,k,D,pre,R,hp,hl => by
   have hn : (lk pre ((k : Int) + 1)).isNone = true:=zmX.2 fun u hu => by have:=hp u hu; omega
   simp only [yb] at hl
   obtain ⟨h1,h2⟩:=zqA l (k + 1) (zk1 ((k : Int) + 1) ⟨-1,0,(b,1)⟩ D) (pre ++ [(⟨(k : Int) + 1,(b,1),-1,0⟩ : Use)]) (zu1 R (⟨(k : Int) + 1,(b,1),-1,0⟩ : Use) hn) (fun u hu => by
    rcases yx.1 hu with hu | hu
    ·have:=hp u hu; omega
    ·rw [yL.1 hu]; show (k : Int) + 1 ≤ _; omega) (by omega)
   rw [zd9,zaJ,zgh,h2]
   rw [yu,yy] at h1
   refine ⟨h1,?_⟩
   have hv : value ((k : Int) + 1) = true:=zmb.2 (by omega)
   simp only [hv,hn,Bool.and_true]
theorem zvw (i : Int) : ∀ (l : List PPhi) (D : zj3) (pre : List Use),Rep D pre → ((zg9 i D l).2.isNone = zgh pre (zcL i l)) ∧ (zgh pre (zcL i l) = true → Rep (zg9 i D l).1 (pre ++ zcL i l))
 | [],D,pre,R => ⟨rfl,fun _ => by simpa [zg9,zcL] using R⟩
 | p :: l,D,pre,R => by
   have e : zcL i (p :: l) = ⟨p.dst,(p.bits,1),i,-1⟩ :: zcL i l:=rfl
   rw [zg9,e,zgh]
   by_cases c : p.dst < 1 ∨ 1023 < p.dst
   ·have hv : value p.dst = false:=by
     cases h : value p.dst
     ·rfl
     ·exact absurd c (zmb.1 h)
    rw [if_pos c,hv]
    exact ⟨rfl,fun h => by simp at h⟩
   ·have hv : value p.dst = true:=zmb.2 c
    rw [if_neg c,hv,R p.dst]
    cases hn : (lk pre p.dst).isNone
    ·rw [if_neg (by simp)]
     exact ⟨rfl,fun h => by simp at h⟩
    ·rw [if_pos rfl]
     have R' : Rep (zk1 p.dst ⟨i,-1,(p.bits,1)⟩ D) (pre ++ [(⟨p.dst,(p.bits,1),i,-1⟩ : Use)]):=zu1 R (⟨p.dst,(p.bits,1),i,-1⟩ : Use) hn
     obtain ⟨h1,h2⟩:=zvw i l _ _ R'
     rw [yu,yy] at h2
     exact ⟨by simpa using h1,fun h => h2 (by simpa using h)⟩
theorem ztY {o : POp} (h : 0 < (zab o).1) : value o.dst = true:=by
 unfold zab at h
 split at h
 ·simp at h
 ·rename_i c
  have hm : zgq o = true:=by
   cases e : zgq o
   ·exact absurd (.inl e) c
   ·rfl
  have hs : zfv o.kind = false:=by
   cases e : zfv o.kind
   ·rfl
   ·exact absurd (.inr e) c
  unfold zgq at hm
  simp only [yc] at hm
  have:=hm.2.2.1
  rw [hs] at this
  simpa using this
theorem zuw (i : Int) : ∀ (l : List POp) (k : Nat) (D : zj3) (pre : List Use),Rep D pre → ((zi1 i k D l).2.isNone = zgh pre (zcP i k l)) ∧ (zgh pre (zcP i k l) = true → Rep (zi1 i k D l).1 (pre ++ zcP i k l))
 | [],k,D,pre,R => ⟨rfl,fun _ => by simpa [zi1,zcP] using R⟩
 | o :: l,k,D,pre,R => by
   rw [zi1,zcP]
   by_cases c : (zab o).1 ≤ 0
   ·rw [if_pos c,if_neg (show ¬ 0 < (zab o).1 by omega)]
    exact zuw i l (k + 1) D pre R
   ·rw [if_neg c,if_pos (show 0 < (zab o).1 by omega),zgh,ztY (o:=o) (by omega),R o.dst]
    cases hn : (lk pre o.dst).isNone
    ·rw [if_neg (by simp)]
     exact ⟨rfl,fun h => by simp at h⟩
    ·rw [if_pos rfl]
     have R' : Rep (zk1 o.dst ⟨i,(k : Int),zab o⟩ D) (pre ++ [(⟨o.dst,zab o,i,(k : Int)⟩ : Use)]):=zu1 R (⟨o.dst,zab o,i,(k : Int)⟩ : Use) hn
     obtain ⟨h1,h2⟩:=zuw i l (k + 1) _ _ R'
     rw [yu,yy] at h2
     exact ⟨by simpa using h1,fun h => h2 (by simpa using h)⟩
theorem zqp : ∀ (l : List PBlock) (k : Nat) (D : zj3) (pre : List Use),Rep D pre → ((zd2 k D l).2.isNone = zgh pre (zW k l)) ∧ (zgh pre (zW k l) = true → Rep (zd2 k D l).1 (pre ++ zW k l))
 | [],k,D,pre,R => ⟨rfl,fun _ => by simpa [zd2,zW] using R⟩
 | b :: l,k,D,pre,R => by
   obtain ⟨p1,p2⟩:=zvw (k : Int) b.phis D pre R
   rw [zd2,zW,zmv,zmv]
   cases hp : zg9 (k : Int) D b.phis with
   | mk D1 q =>
     rw [hp] at p1 p2
     cases q with
     | some x =>
       rw [← p1]
       exact ⟨rfl,fun h => by simp at h⟩
     | none =>
       rw [← p1]
       have R1:=p2 (by rw [← p1]; rfl)
       simp only at R1
       obtain ⟨o1,o2⟩:=zuw (k : Int) b.ops 0 D1 _ R1
       simp only
       cases ho : zi1 (k : Int) 0 D1 b.ops with
       | mk D2 q2 =>
         rw [ho] at o1 o2
         cases q2 with
         | some x =>
           rw [← o1]
           exact ⟨rfl,fun h => by simp at h⟩
         | none =>
           rw [← o1]
           have R2:=o2 (by rw [← o1]; rfl)
           obtain ⟨b1,b2⟩:=zqp l (k + 1) D2 _ R2
           rw [yu] at b1 b2
           simp only [yu] at b1 b2
           refine ⟨by simpa using b1,fun h => ?_⟩
           have:=b2 (by simpa using h)
           simpa [yu] using this
theorem zCd {f : PFunc} (h : f.params.length ≤ 16) : ((zr2 f).2.isNone = zfs (zL f) 0 (zL f)) ∧ (zfs (zL f) 0 (zL f) = true → Rep (zr2 f).1 (zL f)):=by
 have e:=zq9 (zL f) (zL f) [] (by simp)
 rw [ym] at e
 have R0 : Rep [] []:=fun v => rfl
 obtain ⟨h1,h2⟩:=zqA f.params 0 [] [] R0 (by simp) (by omega)
 rw [yI] at h1
 obtain ⟨b1,b2⟩:=zqp f.blocks 0 _ _ h1
 have ea : zgh [] (zL f) = zgh (zaJ 0 f.params) (zW 0 f.blocks):=by
  unfold zL
  rw [zmv,h2,y4,yI]
 rw [e,ea]
 exact ⟨b1,b2⟩
end AC
namespace AC
open Go Go.A Go.A.Lex
open Dm
theorem zDM {f : PFunc} (hf : okF f) (h : zax f = true) : ∃ (t : List Int) (O : Int → Prop) (pos : Int → Nat),TreeOf (zm f) ((0 : Nat) : Int) O pos t ∧ zsW f (t.set 0 (-1)):=by
 have hm:=zfi h
 obtain ⟨n1,n64,hr⟩:=zew hm
 obtain ⟨o,o0,tail,t,O,pos,h1,h2,h3,h4,h5,Q,h6⟩:=zDh hm (root:=0) (by omega)
 refine ⟨t,O,pos,Q,?_,fun _ => ?_⟩
 ·rw [zkG Q]; omega
 ·have hmay : zAp (zm f) (zM (zm f)) = true:=by unfold zAp; rw [hm]; simp
  exact zz2 (zm f) (zM (zm f)) (zh6 hf) hmay 0 (by omega) 200 (by omega) o h1 o0 tail h2 h3 (by omega) 200 5000 t h5
theorem zq2 (f : PFunc) (hf : okF f) : ∃ tree,zsW f tree ∧ (zax f = true → ∃ (t : List Int) (O : Int → Prop) (pos : Int → Nat),TreeOf (zm f) ((0 : Nat) : Int) O pos t ∧ tree = t.set 0 (-1)):=by
 cases c : zax f
 ·exact ⟨[],⟨by simp,fun h => by rw [c] at h; cases h⟩,fun h => by cases h⟩
 ·obtain ⟨t,O,pos,Q,hT⟩:=zDM hf c
  exact ⟨_,hT,fun _ => ⟨t,O,pos,Q,rfl⟩⟩
noncomputable def zCl (f : PFunc) : List Int:=open Classical in if h : okF f then (zq2 f h).choose else []
theorem zCU {f : PFunc} (hf : okF f) : zsW f (zCl f):=by
 unfold zCl
 rw [dif_pos hf]
 exact (zq2 f hf).choose_spec.1
theorem zDo {f : PFunc} (hf : okF f) (h : zax f = true) : ∃ (t : List Int) (O : Int → Prop) (pos : Int → Nat),TreeOf (zm f) ((0 : Nat) : Int) O pos t ∧ zCl f = t.set 0 (-1):=by
 unfold zCl
 rw [dif_pos hf]
 exact (zq2 f hf).choose_spec.2 h
theorem zw6 (f : PFunc) (hf : okF f) (level : Int) : call T 51 [zhc f,vI level] [] = some (vI (zoq f level (zCl f)),[]):=zv7 f hf level _ (zCU hf)
section
variable {f : PFunc} (hf : okF f) (hg : zax f = true) {t : List Int} {O : Int → Prop} {pos : Int → Nat} (Q : TreeOf (zm f) ((0 : Nat) : Int) O pos t)
include hg Q
theorem zkH : ∀ (l : List PBlock) (i : Nat),zd4 (zM (zm f)) (t.set 0 (-1)) i l = zbn (zM (zm f)) (zdn (zm f) 0 (-1)) i l
 | [],_ => rfl
 | b :: l,i => by
   rw [zd4,zbn,zkH l (i + 1),zqR,zjE]
   congr 1
   have e : zkr (t.set 0 (-1)) (i : Int) (i : Int) = (zdn (zm f) 0 (-1)).getD i false:=by
    rw [yaa]
    have h1:=zA2 Q (i : Int) (i : Int)
    have h2:=zux (zfi hg) Q i
    rw [h1]
    exact ⟨fun h => h2.2 h.1,fun h => ⟨h2.1 h,h2.1 h,zBz _⟩⟩
   rw [e,Bool.and_comm (b.phis.all _)]
theorem zwj : zgY f (t.set 0 (-1)) = zf5 f:=by
 unfold zgY zf5
 rw [zkH hg Q]
end
theorem zkk (ask : Use → Int) (c : Int) (hc : c ≠ 0) : ∀ l : List Use,(∀ u ∈ l,ask u = 0 ∨ ask u = c) → zU ask l = if l.all (fun u => decide (ask u = 0)) = true then 0 else c
 | [],_ => rfl
 | u :: l,h => by
   have ih:=zkk ask c hc l fun x hx => h x (yh _ hx)
   rw [zU,y5]
   rcases h u yf with h0 | h0
   ·rw [if_pos h0,ih,h0]
    simp
   ·rw [if_neg (by rw [h0]; exact hc),h0]
    simp [hc]
theorem zmN {l : List Use} {p q : Use → Bool} (h : ∀ u ∈ l,p u = q u) : l.all p = l.all q:=by
 induction l with
 | nil => rfl
 | cons x l ih => rw [y5,y5,h x yf,ih fun y hy => h y (yh _ hy)]
theorem zkb (defs : List Use) (v : Int) : ∀ (k : Nat),(zh v k defs < 0 ↔ (lk defs v).isNone = true) ∧ (0 ≤ zh v k defs → defs[(zh v k defs - k).toNat]? = defs.find? (fun u => decide (u.v = v))):=by
 induction defs with
 | nil => intro k; simp [zh,lk]
 | cons u r ih =>
   intro k
   obtain ⟨h1,h2⟩:=ih (k + 1)
   rw [zh]
   by_cases c : u.v = v
   ·rw [if_pos c]
    constructor
    ·constructor
     ·intro h; omega
     ·intro h
      exact absurd c (zmX.1 h u yf)
    ·intro _
     rw [Int.sub_self,yJ,decide_eq_true c]
     rfl
   ·rw [if_neg c]
    have e : lk (u :: r) v = lk r v:=by unfold lk; rw [yJ,decide_eq_false c]
    rw [e]
    refine ⟨h1,fun h => ?_⟩
    have:=h2 h
    have hb:=ziK v r (k + 1) h
    rw [yJ,decide_eq_false c,← this]
    rw [show (zh v (k + 1) r - (k : Int)).toNat = (zh v (k + 1) r - ((k + 1 : Nat) : Int)).toNat + 1 by omega,List.getElem?_cons_succ]
theorem zBg {defs : List Use} {v : Int} {p : PDef} (h : lk defs v = some p) : toP (zhN defs v) = p:=by
 obtain ⟨h1,h2⟩:=zkb defs v 0
 have h0 : 0 ≤ zh v 0 defs:=by
  by_cases c : zh v 0 defs < 0
  ·have:=h1.1 c
   rw [h] at this
   cases this
  ·omega
 have:=h2 h0
 rw [show zh v 0 defs - ((0 : Nat) : Int) = zh v 0 defs by omega] at this
 unfold lk at h
 cases e : defs.find? (fun u => decide (u.v = v)) with
 | none => rw [e] at h; cases h
 | some x =>
   rw [e] at h this
   unfold zhN
   rw [yd,this]
   simpa using h
theorem zlS (p : PPhi) : ∀ (l : List Int) (k : Nat),k + l.length ≤ p.src.length → ∀ u ∈ zH p k l,u.block ∈ p.src ∧ u.at' = 1048576
 | [],_,_ => by simp [zH]
 | v :: l,k,h => by
   simp only [yb] at h
   intro u hu
   rw [zH] at hu
   rcases yp.1 hu with rfl | hu
   ·refine ⟨?_,rfl⟩
    show p.src.getD k 0 ∈ p.src
    rw [yd,ye (by omega)]
    exact yr _
   ·exact zlS p l (k + 1) (by omega) u hu
theorem znC (o : POp) (i at' : Int) : ∀ (l : List (Int × Int)) (k : Nat),∀ u ∈ zO o i at' k l,u.block = i ∧ u.at' = at'
 | [],_ => by simp [zO]
 | s :: l,k => by
   intro u hu
   rw [zO] at hu
   rcases yp.1 hu with rfl | hu
   ·exact ⟨rfl,rfl⟩
   ·exact znC o i at' l (k + 1) u hu
theorem zl8 (i : Int) : ∀ (l : List POp) (k : Nat),∀ u ∈ zu i k l,u.block = i ∧ 0 ≤ u.at' ∧ u.at' < ((k + l.length : Nat) : Int)
 | [],_ => by simp [zu]
 | o :: l,k => by
   intro u hu
   rw [zu] at hu
   rcases yx.1 hu with hu | hu
   ·obtain ⟨h1,h2⟩:=znC o i (k : Int) _ 0 u hu
    simp only [yb]
    exact ⟨h1,by omega,by omega⟩
   ·obtain ⟨h1,h2,h3⟩:=zl8 i l (k + 1) u hu
    simp only [yb]
    exact ⟨h1,h2,by omega⟩
theorem zlv (pred : List (List Int)) (reach : List Bool) : ∀ (l : List PBlock) (i : Nat),zbn pred reach i l = true → ∀ k b,l[k]? = some b → zjE pred reach (i + k) b = true
 | [],_,_ => by simp
 | b :: l,i,h => by
   rw [zbn,yc] at h
   intro k c hc
   cases k with
   | zero =>
     simp only [yN,Option.some.injEq] at hc
     subst hc
     exact h.1
   | succ k =>
     have:=zlv pred reach l (i + 1) h.2 k c (by simpa using hc)
     rwa [show i + 1 + k = i + (k + 1) by omega] at this
theorem zkL (f : PFunc) (P : Int → Prop) : ∀ (l : List PBlock) (k : Nat),(∀ j b,l[j]? = some b → P ((k + j : Nat) : Int) ∧ b.ops.length ≤ 1000 ∧ ∀ p ∈ b.phis,p.args.length = p.src.length ∧ ∀ x ∈ p.src,P x) → ∀ u ∈ zaC f k l,P u.block ∧ (u.at' = 1048576 ∨ (0 ≤ u.at' ∧ u.at' < 1000))
 | [],_,_ => by simp [zaC]
 | b :: l,k,h => by
   intro u hu
   obtain ⟨h0,hol,hp⟩:=h 0 b rfl
   rw [yR] at h0
   rw [zaC,zgQ] at hu
   rcases yx.1 hu with hu | hu
   ·rcases yx.1 hu with hu | hu
    ·unfold zaj at hu
     rw [List.mem_flatMap] at hu
     obtain ⟨p,hpm,hu⟩:=hu
     obtain ⟨e1,e2⟩:=hp p hpm
     obtain ⟨q1,q2⟩:=zlS p p.args 0 (by omega) u hu
     exact ⟨e2 _ q1,.inl q2⟩
    ·rcases yx.1 hu with hu | hu
     ·obtain ⟨q1,q2,q3⟩:=zl8 (k : Int) b.ops 0 u hu
      rw [q1]
      exact ⟨h0,.inr ⟨q2,by omega⟩⟩
     ·unfold zbr at hu
      split at hu
      ·simp at hu
      ·rw [yL.1 hu]
       exact ⟨h0,.inl rfl⟩
   ·exact zkL f P l (k + 1) (fun j c hc => by
    have:=h (j + 1) c (by simpa using hc)
    rwa [show k + (j + 1) = k + 1 + j by omega] at this) u hu
theorem zjb (i : Int) : ∀ (l : List POp) (k : Nat),∀ u ∈ zcP i k l,u.block = i ∧ 0 ≤ u.at' ∧ u.at' < ((k + l.length : Nat) : Int)
 | [],_ => by simp [zcP]
 | o :: l,k => by
   intro u hu
   rw [zcP] at hu
   simp only [yb]
   split at hu
   ·rcases yp.1 hu with rfl | hu
    ·exact ⟨rfl,by show (0 : Int) ≤ (k : Int); omega,by show (k : Int) < _; omega⟩
    ·obtain ⟨h1,h2,h3⟩:=zjb i l (k + 1) u hu
     exact ⟨h1,h2,by omega⟩
   ·obtain ⟨h1,h2,h3⟩:=zjb i l (k + 1) u hu
    exact ⟨h1,h2,by omega⟩
theorem zi3 : ∀ (l : List PBlock) (k : Nat),(∀ b ∈ l,b.ops.length ≤ 1000) → ∀ u ∈ zW k l,(k : Int) ≤ u.block ∧ u.block < ((k + l.length : Nat) : Int) ∧ u.at' < 1000
 | [],_,_ => by simp [zW]
 | b :: l,k,h => by
   intro u hu
   have hb:=h b yf
   simp only [yb]
   rw [zW] at hu
   rcases yx.1 hu with hu | hu
   ·unfold zcL at hu
    obtain ⟨p,_,rfl⟩:=List.mem_map.1 hu
    exact ⟨yad _,by show (k : Int) < _; omega,by show (-1 : Int) < 1000; omega⟩
   ·rcases yx.1 hu with hu | hu
    ·obtain ⟨h1,h2,h3⟩:=zjb (k : Int) b.ops 0 u hu
     exact ⟨by omega,by omega,by omega⟩
    ·obtain ⟨h1,h2,h3⟩:=zi3 l (k + 1) (fun c hc => h c (yh _ hc)) u hu
     exact ⟨by omega,by omega,h3⟩
theorem zju : ∀ (l : List Int) (k : Nat),∀ u ∈ zaJ k l,u.block = -1 ∧ u.at' = 0
 | [],_ => by simp [zaJ]
 | b :: l,k => by
   intro u hu
   rw [zaJ] at hu
   rcases yp.1 hu with rfl | hu
   ·exact ⟨rfl,rfl⟩
   ·exact zju l (k + 1) u hu
theorem zoy {f : PFunc} (h : zh8 f ≤ 512) : ∀ b ∈ f.blocks,b.ops.length ≤ 1000:=fun b hb => by
 have key : ∀ l : List PBlock,b ∈ l → b.phis.length + b.ops.length ≤ (l.map fun b => b.phis.length + b.ops.length).sum:=by
  intro l
  induction l with
  | nil => intro h; cases h
  | cons a l ih =>
    intro h
    simp only [yP,yQ]
    rcases yp.1 h with rfl | h
    ·omega
    ·have:=ih h; omega
 have:=key _ hb
 unfold zh8 at h
 omega
theorem zyA {f : PFunc} (hf : okF f) (level : Int) (hm : zlx f = true) : zlb f level (zCl f) = z6 f level ∨ level < 0 ∨ 2 < level:=by
 by_cases hlv : level < 0 ∨ 2 < level
 ·exact .inr hlv
 left
 unfold zlb z6
 have hmf : ¬ zlx f = false:=by simp [hm]
 have tf : ¬ (true = false):=by simp
 have ff : false = false:=rfl
 rw [if_neg hlv,if_neg hmf,if_neg hmf]
 cases hg : zax f
 ·have e1 : zgY f (zCl f) = false:=by unfold zgY; rw [hg]; rfl
  have e2 : zf5 f = false:=by unfold zf5; rw [hg]; rfl
  rw [if_pos e1,if_pos e2]
 obtain ⟨t,O,pos,Q,hTr⟩:=zDo hf hg
 have hmk:=zfi hg
 rw [hTr,zwj hg Q]
 cases hs : zf5 f
 ·rw [if_pos ff,if_pos ff]
 rw [if_neg tf,if_neg tf]
 cases ht : zfm f level
 ·rw [if_pos ff,if_pos ff]
 rw [if_neg tf,if_neg tf]
 obtain ⟨n1,n64,np,nsz,nb⟩:=zgD hm
 obtain ⟨d1,d2⟩:=zCd (f:=f) np
 cases hd : zr2 f with
 | mk D q =>
   rw [hd] at d1 d2
   cases q with
   | some x =>
     have : zfs (zL f) 0 (zL f) = false:=d1.symm
     simp only
     rw [if_pos this]
   | none =>
     have hok : zfs (zL f) 0 (zL f) = true:=d1.symm
     have R:=d2 hok
     simp only at R ⊢
     rw [hok,if_neg tf]
     have hsf : zbn (zM (zm f)) (zdn (zm f) 0 (-1)) 0 f.blocks = true:=by
      unfold zf5 at hs
      rw [yc] at hs
      exact hs.2
     have hOi : ∀ i : Nat,i < f.blocks.length → O (i : Int):=fun i hi => by
      have:=zlv _ _ _ _ hsf i _ (ye hi)
      unfold zjE at this
      rw [yc,yF] at this
      exact (zux hmk Q i).1 this.1
     have hr:=(zew hmk).2.2
     have hsl : (zm f).length = f.blocks.length:=by simp [zm]
     have hU : ∀ u ∈ zfb f,O u.block ∧ (u.at' = 1048576 ∨ (0 ≤ u.at' ∧ u.at' < 1000)):=by
      refine zkL f O f.blocks 0 fun j b hb => ?_
      have hj:=(yA.1 hb).1
      have hsb:=zlv _ _ _ _ hsf j b hb
      rw [yF] at hsb ⊢
      unfold zjE at hsb
      simp only [yc,yq] at hsb
      refine ⟨hOi j hj,zoy nsz b (yV hb),fun p hp => ?_⟩
      have h1:=hsb.2.2 p hp
      unfold zhP at h1
      simp only [yc,decide_eq_true_eq] at h1
      refine ⟨h1.2,fun x hx => ?_⟩
      rw [h1.1] at hx
      have:=(zms hr (x:=(j : Int)) ⟨by omega,by omega⟩ x).1 (by rw [ya]; exact hx)
      obtain ⟨y,hy⟩ : ∃ y : Nat,(y : Int) = x:=⟨x.toNat,by have:=this.1; omega⟩
      rw [← hy]
      exact hOi y (by have:=this.2.1; omega)
     have hDf : ∀ d ∈ zL f,(d.block < 0 ∨ O d.block) ∧ d.at' < 1000:=fun d hd' => by
      unfold zL at hd'
      rcases yx.1 hd' with hd' | hd'
      ·obtain ⟨e1,e2⟩:=zju _ _ d hd'
       exact ⟨.inl (by omega),by omega⟩
      ·obtain ⟨e1,e2,e3⟩:=zi3 f.blocks 0 (zoy nsz) d hd'
       refine ⟨.inr ?_,e3⟩
       obtain ⟨y,hy⟩ : ∃ y : Nat,(y : Int) = d.block:=⟨d.block.toNat,by omega⟩
       rw [← hy]
       exact hOi y (by omega)
     have f1:=zkk (zkE D) 7 (by omega) (zfb f) fun u _ => by unfold zkE; split <;> simp
     have a1 : (zfb f).all (fun u => decide (zkE D u = 0)) = (zeZ f).all (zjt (zL f)):=by
      unfold zeZ
      rw [y9]
      refine zmN fun u _ => ?_
      show decide (zkE D u = 0) = zjt (zL f) (zV u)
      have e:=(zkb (zL f) u.v 0).1
      unfold zkE zjt
      rw [R u.v]
      show _ = !decide (zh u.v 0 (zL f) < 0)
      by_cases c : zh u.v 0 (zL f) < 0
      ·rw [if_pos (e.1 c),decide_eq_true c]; rfl
      ·rw [if_neg (fun h => c (e.2 h)),decide_eq_false c]; rfl
     rw [f1,a1]
     cases b1 : (zeZ f).all (zjt (zL f))
     ·simp
     have hdef : ∀ u ∈ zfb f,∃ p,lk (zL f) u.v = some p:=fun u hu => by
      have:=yq.1 b1 (zV u) (List.mem_map_of_mem hu)
      unfold zjt at this
      have e:=(zkb (zL f) u.v 0).1
      cases h : lk (zL f) u.v with
      | some p => exact ⟨p,rfl⟩
      | none =>
        have hn:=e.2 (by rw [h]; rfl)
        have : (!decide (zh u.v 0 (zL f) < 0)) = true:=this
        rw [decide_eq_true hn] at this
        cases this
     have hat : ∀ u ∈ zfb f,zlm D u.v = toP (zhN (zL f) u.v):=fun u hu => by
      obtain ⟨p,hp⟩:=hdef u hu
      unfold zlm
      rw [R u.v,hp,zBg hp]
      rfl
     have f2:=zkk (zcc D) 6 (by omega) (zfb f) fun u _ => by unfold zcc; split <;> simp
     have a2 : (zfb f).all (fun u => decide (zcc D u = 0)) = (zeZ f).all (sameShape (zL f)):=by
      unfold zeZ
      rw [y9]
      refine zmN fun u hu => ?_
      show decide (zcc D u = 0) = sameShape (zL f) (zV u)
      unfold zcc sameShape
      rw [hat u hu]
      show decide ((if (zhN (zL f) u.v).shape = u.shape then (0 : Int) else 6) = 0) = decide ((zhN (zL f) u.v).shape = u.shape)
      by_cases c : (zhN (zL f) u.v).shape = u.shape
      ·rw [if_pos c,decide_eq_true c]; rfl
      ·rw [if_neg c,decide_eq_false c]; rfl
     rw [f2,a2]
     cases b2 : (zeZ f).all (sameShape (zL f))
     ·simp
     have f3:=zkk (zaV D (t.set 0 (-1))) 7 (by omega) (zfb f) fun u _ => by
      unfold zaV
      simp only
      split
      ·simp
      ·split <;> simp
     have a3 : (zfb f).all (fun u => decide (zaV D (t.set 0 (-1)) u = 0)) = (zeZ f).all (zgf (zL f) (zeS (zm f) 0)):=by
      have e7 : zeS (zm f) 0 = t.set 0 (-1):=zyE hmk Q
      rw [e7]
      unfold zeZ
      rw [y9]
      refine zmN fun u hu => ?_
      show decide (zaV D (t.set 0 (-1)) u = 0) = zgf (zL f) (t.set 0 (-1)) (zV u)
      obtain ⟨uo,ua⟩:=hU u hu
      unfold zaV zgf
      rw [hat u hu]
      have hv1 : (zV u).v = u.v:=rfl
      have hb1 : (zV u).block = u.block:=rfl
      rw [hv1,hb1]
      obtain ⟨d,hd'⟩ : ∃ d,d = zhN (zL f) u.v:=⟨_,rfl⟩
      rw [← hd']
      have hdm : d ∈ zL f:=by
       obtain ⟨p,hp⟩:=hdef u hu
       have hi:=zkb (zL f) u.v 0
       have h0 : 0 ≤ zh u.v 0 (zL f):=by
        by_cases c : zh u.v 0 (zL f) < 0
        ·have:=hi.1.1 c
         rw [hp] at this
         cases this
        ·omega
       have hlt:=ziK u.v (zL f) 0 h0
       rw [hd']
       unfold zhN
       rw [yd,ye (by omega)]
       exact yr _
      obtain ⟨db,da⟩:=hDf d hdm
      show decide ((if d.block < 0 then (0 : Int) else if (d.block = u.block ∧ d.at' < u.at') ∨ (d.block ≠ u.block ∧ zkr (t.set 0 (-1)) d.block u.block = true) then 0 else 7) = 0) = _
      by_cases c1 : d.block < 0
      ·rw [if_pos c1,decide_eq_true c1]; rfl
      ·rw [if_neg c1,decide_eq_false c1]
       have dO:=db.resolve_left c1
       have hmo:=zzH Q dO uo
       by_cases c2 : d.block = u.block
       ·have h3 : (d.at' < u.at') ↔ (d.at' < (zV u).at'):=by
         show _ ↔ d.at' < (if u.at' = 1048576 then 1000 else u.at')
         split <;> omega
        by_cases c3 : d.at' < u.at'
        ·rw [if_pos (.inl ⟨c2,c3⟩),decide_eq_true c2,decide_eq_true (h3.1 c3)]; rfl
        ·rw [if_neg (fun h => h.elim (fun h => c3 h.2) (fun h => h.1 c2)),decide_eq_true c2,decide_eq_false (fun h => c3 (h3.2 h))]; rfl
       ·rw [decide_eq_false c2]
        by_cases c4 : zkr (t.set 0 (-1)) d.block u.block = true
        ·rw [if_pos (.inr ⟨c2,c4⟩),decide_eq_true (hmo.2 c4)]; rfl
        ·rw [if_neg (fun h => h.elim (fun h => c2 h.1) (fun h => c4 h.2)),decide_eq_false (fun h => c4 (hmo.1 h))]; rfl
     rw [f3,a3]
     cases b3 : (zeZ f).all (zgf (zL f) (zeS (zm f) 0)) <;> simp
theorem zzE {f : PFunc} (hf : okF f) (level : Int) : zoq f level (zCl f) = z6 f level:=by
 unfold zoq
 by_cases hlv : level < 0 ∨ 2 < level
 ·rw [if_pos hlv]
  unfold z6
  rw [if_pos hlv]
 ·rw [if_neg hlv]
  cases hm : zlx f
  ·unfold zlb z6
   rw [if_neg hlv,if_pos hm,if_pos hm]
  ·exact (zyA hf level hm).resolve_right hlv
end AC

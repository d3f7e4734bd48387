/- A part of the proof of SchedDepth. Conditions: none. -/
import Derived.Test.YtmkncmffaaninaaGreatDBE
import Derived.Test.YtmkncmffaaninaaGreatDBB
import Derived.Test.YtmkncmffaaninaaGreatDAX
set_option linter.unusedVariables false
set_option linter.unusedSimpArgs false
set_option linter.unusedSectionVars false
open List renaming getD_eq_getElem?_getD → ya,mem_cons_self → yb,length_cons → yc,mem_cons → yd,getElem?_eq_getElem → ye,mem_cons_of_mem → yg,mem_append → yh,pairwise_cons → yi,range → yj,mem_range → yk,getElem_mem → yl,getElem?_eq_some_iff → ym,mem_filter → yo,foldl_cons → yq,mem_singleton → yr,length_append → ys,getElem?_cons_zero → yt,getElem?_map → yu,append_assoc → yv,mem_map → yw,length_singleton → yx,find?_cons → yy,mem_iff_getElem → yz,getElem?_range → yA,all_cons → yC,getElem_take → yD,all_eq_true → yE,filter_cons → yF,length_take → yG,all_map → yI,range_succ → yJ,take_left → yL
open Bool renaming and_eq_true → yf,or_eq_true → yn
open Nat renaming lt_succ_iff_lt_or_eq → yp,add_zero → yM,zero_add → yN,sub_self → yO,le_refl → yQ
open Int renaming toNat_natCast → yB,le_refl → yH,lt_irrefl → yK,ofNat → yP
open Iff renaming rfl → yR
namespace AC
open Go Go.A Go.A.Lex
open Dm
theorem zDK {f : PFunc} (hf : okF f) (h : zat f = true) : ∃ (t : List Int) (O : Int → Prop) (pos : Int → Nat),TreeOf (zl f) ((0 : Nat) : Int) O pos t ∧ ztM f (t.set 0 (-1)):=by
 have hm:=zfl h
 obtain ⟨n1,n64,hr⟩:=zeA hm
 obtain ⟨o,o0,tail,t,O,pos,h1,h2,h3,h4,h5,Q,h6⟩:=zC0 hm (root:=0) (by omega)
 refine ⟨t,O,pos,Q,?_,fun _ => ?_⟩
 ·rw [zkF Q]; omega
 ·have hmay : zAr (zl f) (zM (zl f)) = true:=by unfold zAr; rw [hm]; simp
  exact zzY (zl f) (zM (zl f)) (zh4 hf) hmay 0 (by omega) 200 (by omega) o h1 o0 tail h2 h3 (by omega) 200 5000 t h5
theorem zrM (f : PFunc) (hf : okF f) : ∃ tree,ztM f tree ∧ (zat f = true → ∃ (t : List Int) (O : Int → Prop) (pos : Int → Nat),TreeOf (zl f) ((0 : Nat) : Int) O pos t ∧ tree = t.set 0 (-1)):=by
 cases c : zat f
 ·exact ⟨[],⟨by simp,fun h => by rw [c] at h; cases h⟩,fun h => by cases h⟩
 ·obtain ⟨t,O,pos,Q,hT⟩:=zDK hf c
  exact ⟨_,hT,fun _ => ⟨t,O,pos,Q,rfl⟩⟩
noncomputable def zCr (f : PFunc) : List Int:=open Classical in if h : okF f then (zrM f h).choose else []
theorem zCL {f : PFunc} (hf : okF f) : ztM f (zCr f):=by
 unfold zCr
 rw [dif_pos hf]
 exact (zrM f hf).choose_spec.1
theorem zCB {f : PFunc} (hf : okF f) (h : zat f = true) : ∃ (t : List Int) (O : Int → Prop) (pos : Int → Nat),TreeOf (zl f) ((0 : Nat) : Int) O pos t ∧ zCr f = t.set 0 (-1):=by
 unfold zCr
 rw [dif_pos hf]
 exact (zrM f hf).choose_spec.2 h
theorem zwj (f : PFunc) (hf : okF f) (level : Int) : call T 51 [zgS f,vI level] [] = some (vI (zpl f level (zCr f)),[]):=zwT f hf level _ (zCL hf)
section
variable {f : PFunc} (hf : okF f) (hg : zat f = true) {t : List Int} {O : Int → Prop} {pos : Int → Nat} (Q : TreeOf (zl f) ((0 : Nat) : Int) O pos t)
include hg Q
theorem zkD : ∀ (l : List PBlock) (i : Nat),zd2 (zM (zl f)) (t.set 0 (-1)) i l = zbn (zM (zl f)) (zdn (zl f) 0 (-1)) i l
 | [],_ => rfl
 | b :: l,i => by
   rw [zd2,zbn,zkD l (i + 1),zp7,zjb]
   congr 1
   have e : zky (t.set 0 (-1)) (i : Int) (i : Int) = (zdn (zl f) 0 (-1)).getD i false:=by
    rw [Bool.eq_iff_iff]
    have h1:=zCa Q (i : Int) (i : Int)
    have h2:=zt7 (zfl hg) Q i
    rw [h1]
    exact ⟨fun h => h2.2 h.1,fun h => ⟨h2.1 h,h2.1 h,zAW _⟩⟩
   rw [e,Bool.and_comm (b.phis.all _)]
theorem zwW : zg7 f (t.set 0 (-1)) = zf9 f:=by
 unfold zg7 zf9
 rw [zkD hg Q]
end
theorem zj3 (ask : Use → Int) (c : Int) (hc : c ≠ 0) : ∀ l : List Use,(∀ u ∈ l,ask u = 0 ∨ ask u = c) → zU ask l = if l.all (fun u => decide (ask u = 0)) = true then 0 else c
 | [],_ => rfl
 | u :: l,h => by
   have ih:=zj3 ask c hc l fun x hx => h x (yg _ hx)
   rw [zU,yC]
   rcases h u yb with h0 | h0
   ·rw [if_pos h0,ih,h0]
    simp
   ·rw [if_neg (by rw [h0]; exact hc),h0]
    simp [hc]
theorem zm9 {l : List Use} {p q : Use → Bool} (h : ∀ u ∈ l,p u = q u) : l.all p = l.all q:=by
 induction l with
 | nil => rfl
 | cons x l ih => rw [yC,yC,h x yb,ih fun y hy => h y (yg _ hy)]
theorem zj8 (defs : List Use) (v : Int) : ∀ (k : Nat),(zh v k defs < 0 ↔ (lk defs v).isNone = true) ∧ (0 ≤ zh v k defs → defs[(zh v k defs - k).toNat]? = defs.find? (fun u => decide (u.v = v))):=by
 induction defs with
 | nil => intro k; simp [zh,lk]
 | cons u r ih =>
   intro k
   obtain ⟨h1,h2⟩:=ih (k + 1)
   rw [zh]
   by_cases c : u.v = v
   ·rw [if_pos c]
    constructor
    ·constructor
     ·intro h; omega
     ·intro h
      exact absurd c (zmP.1 h u yb)
    ·intro _
     rw [Int.sub_self,yy,decide_eq_true c]
     rfl
   ·rw [if_neg c]
    have e : lk (u :: r) v = lk r v:=by unfold lk; rw [yy,decide_eq_false c]
    rw [e]
    refine ⟨h1,fun h => ?_⟩
    have:=h2 h
    have hb:=zig v r (k + 1) h
    rw [yy,decide_eq_false c,← this]
    rw [show (zh v (k + 1) r - (k : Int)).toNat = (zh v (k + 1) r - ((k + 1 : Nat) : Int)).toNat + 1 by omega,List.getElem?_cons_succ]
theorem zBu {defs : List Use} {v : Int} {p : PDef} (h : lk defs v = some p) : toP (zhC defs v) = p:=by
 obtain ⟨h1,h2⟩:=zj8 defs v 0
 have h0 : 0 ≤ zh v 0 defs:=by
  by_cases c : zh v 0 defs < 0
  ·have:=h1.1 c
   rw [h] at this
   cases this
  ·omega
 have:=h2 h0
 rw [show zh v 0 defs - ((0 : Nat) : Int) = zh v 0 defs by omega] at this
 unfold lk at h
 cases e : defs.find? (fun u => decide (u.v = v)) with
 | none => rw [e] at h; cases h
 | some x =>
   rw [e] at h this
   unfold zhC
   rw [ya,this]
   simpa using h
theorem zmi (p : PPhi) : ∀ (l : List Int) (k : Nat),k + l.length ≤ p.src.length → ∀ u ∈ zF p k l,u.block ∈ p.src ∧ u.at' = 1048576
 | [],_,_ => by simp [zF]
 | v :: l,k,h => by
   simp only [yc] at h
   intro u hu
   rw [zF] at hu
   rcases yd.1 hu with rfl | hu
   ·refine ⟨?_,rfl⟩
    show p.src.getD k 0 ∈ p.src
    rw [ya,ye (by omega)]
    exact yl _
   ·exact zmi p l (k + 1) (by omega) u hu
theorem znq (o : POp) (i at' : Int) : ∀ (l : List (Int × Int)) (k : Nat),∀ u ∈ zO o i at' k l,u.block = i ∧ u.at' = at'
 | [],_ => by simp [zO]
 | s :: l,k => by
   intro u hu
   rw [zO] at hu
   rcases yd.1 hu with rfl | hu
   ·exact ⟨rfl,rfl⟩
   ·exact znq o i at' l (k + 1) u hu
theorem zlO (i : Int) : ∀ (l : List POp) (k : Nat),∀ u ∈ zu i k l,u.block = i ∧ 0 ≤ u.at' ∧ u.at' < ((k + l.length : Nat) : Int)
 | [],_ => by simp [zu]
 | o :: l,k => by
   intro u hu
   rw [zu] at hu
   rcases yh.1 hu with hu | hu
   ·obtain ⟨h1,h2⟩:=znq o i (k : Int) _ 0 u hu
    simp only [yc]
    exact ⟨h1,by omega,by omega⟩
   ·obtain ⟨h1,h2,h3⟩:=zlO i l (k + 1) u hu
    simp only [yc]
    exact ⟨h1,h2,by omega⟩
theorem zkT (pred : List (List Int)) (reach : List Bool) : ∀ (l : List PBlock) (i : Nat),zbn pred reach i l = true → ∀ k b,l[k]? = some b → zjb pred reach (i + k) b = true
 | [],_,_ => by simp
 | b :: l,i,h => by
   rw [zbn,yf] at h
   intro k c hc
   cases k with
   | zero =>
     simp only [yt,Option.some.injEq] at hc
     subst hc
     exact h.1
   | succ k =>
     have:=zkT pred reach l (i + 1) h.2 k c (by simpa using hc)
     rwa [show i + 1 + k = i + (k + 1) by omega] at this
theorem zkB (f : PFunc) (P : Int → Prop) : ∀ (l : List PBlock) (k : Nat),(∀ j b,l[j]? = some b → P ((k + j : Nat) : Int) ∧ b.ops.length ≤ 1000 ∧ ∀ p ∈ b.phis,p.args.length = p.src.length ∧ ∀ x ∈ p.src,P x) → ∀ u ∈ zaB f k l,P u.block ∧ (u.at' = 1048576 ∨ (0 ≤ u.at' ∧ u.at' < 1000))
 | [],_,_ => by simp [zaB]
 | b :: l,k,h => by
   intro u hu
   obtain ⟨h0,hol,hp⟩:=h 0 b rfl
   rw [yM] at h0
   rw [zaB,zg3] at hu
   rcases yh.1 hu with hu | hu
   ·rcases yh.1 hu with hu | hu
    ·unfold zaj at hu
     rw [List.mem_flatMap] at hu
     obtain ⟨p,hpm,hu⟩:=hu
     obtain ⟨e1,e2⟩:=hp p hpm
     obtain ⟨q1,q2⟩:=zmi p p.args 0 (by omega) u hu
     exact ⟨e2 _ q1,.inl q2⟩
    ·rcases yh.1 hu with hu | hu
     ·obtain ⟨q1,q2,q3⟩:=zlO (k : Int) b.ops 0 u hu
      rw [q1]
      exact ⟨h0,.inr ⟨q2,by omega⟩⟩
     ·unfold zbp at hu
      split at hu
      ·simp at hu
      ·rw [yr.1 hu]
       exact ⟨h0,.inl rfl⟩
   ·exact zkB f P l (k + 1) (fun j c hc => by
    have:=h (j + 1) c (by simpa using hc)
    rwa [show k + (j + 1) = k + 1 + j by omega] at this) u hu
theorem zjC (i : Int) : ∀ (l : List POp) (k : Nat),∀ u ∈ zcW i k l,u.block = i ∧ 0 ≤ u.at' ∧ u.at' < ((k + l.length : Nat) : Int)
 | [],_ => by simp [zcW]
 | o :: l,k => by
   intro u hu
   rw [zcW] at hu
   simp only [yc]
   split at hu
   ·rcases yd.1 hu with rfl | hu
    ·exact ⟨rfl,by show (0 : Int) ≤ (k : Int); omega,by show (k : Int) < _; omega⟩
    ·obtain ⟨h1,h2,h3⟩:=zjC i l (k + 1) u hu
     exact ⟨h1,h2,by omega⟩
   ·obtain ⟨h1,h2,h3⟩:=zjC i l (k + 1) u hu
    exact ⟨h1,h2,by omega⟩
theorem zi4 : ∀ (l : List PBlock) (k : Nat),(∀ b ∈ l,b.ops.length ≤ 1000) → ∀ u ∈ zV k l,(k : Int) ≤ u.block ∧ u.block < ((k + l.length : Nat) : Int) ∧ u.at' < 1000
 | [],_,_ => by simp [zV]
 | b :: l,k,h => by
   intro u hu
   have hb:=h b yb
   simp only [yc]
   rw [zV] at hu
   rcases yh.1 hu with hu | hu
   ·unfold zcY at hu
    obtain ⟨p,_,rfl⟩:=yw.1 hu
    exact ⟨yH _,by show (k : Int) < _; omega,by show (-1 : Int) < 1000; omega⟩
   ·rcases yh.1 hu with hu | hu
    ·obtain ⟨h1,h2,h3⟩:=zjC (k : Int) b.ops 0 u hu
     exact ⟨by omega,by omega,by omega⟩
    ·obtain ⟨h1,h2,h3⟩:=zi4 l (k + 1) (fun c hc => h c (yg _ hc)) u hu
     exact ⟨by omega,by omega,h3⟩
theorem zji : ∀ (l : List Int) (k : Nat),∀ u ∈ zaP k l,u.block = -1 ∧ u.at' = 0
 | [],_ => by simp [zaP]
 | b :: l,k => by
   intro u hu
   rw [zaP] at hu
   rcases yd.1 hu with rfl | hu
   ·exact ⟨rfl,rfl⟩
   ·exact zji l (k + 1) u hu
theorem zoP {f : PFunc} (h : zhX f ≤ 512) : ∀ b ∈ f.blocks,b.ops.length ≤ 1000:=fun b hb => by
 have key : ∀ l : List PBlock,b ∈ l → b.phis.length + b.ops.length ≤ (l.map fun b => b.phis.length + b.ops.length).sum:=by
  intro l
  induction l with
  | nil => intro h; cases h
  | cons a l ih =>
    intro h
    simp only [List.map_cons,List.sum_cons]
    rcases yd.1 h with rfl | h
    ·omega
    ·have:=ih h; omega
 have:=key _ hb
 unfold zhX at h
 omega
theorem zx4 {f : PFunc} (hf : okF f) (level : Int) (hm : zlx f = true) : zln f level (zCr f) = zaa f level ∨ level < 0 ∨ 2 < level:=by
 by_cases hlv : level < 0 ∨ 2 < level
 ·exact .inr hlv
 left
 unfold zln zaa
 have hmf : ¬ zlx f = false:=by simp [hm]
 have tf : ¬ (true = false):=by simp
 have ff : false = false:=rfl
 rw [if_neg hlv,if_neg hmf,if_neg hmf]
 cases hg : zat f
 ·have e1 : zg7 f (zCr f) = false:=by unfold zg7; rw [hg]; rfl
  have e2 : zf9 f = false:=by unfold zf9; rw [hg]; rfl
  rw [if_pos e1,if_pos e2]
 obtain ⟨t,O,pos,Q,hTr⟩:=zCB hf hg
 have hmk:=zfl hg
 rw [hTr,zwW hg Q]
 cases hs : zf9 f
 ·rw [if_pos ff,if_pos ff]
 rw [if_neg tf,if_neg tf]
 cases ht : zfk f level
 ·rw [if_pos ff,if_pos ff]
 rw [if_neg tf,if_neg tf]
 obtain ⟨n1,n64,np,nsz,nb⟩:=zgE hm
 obtain ⟨d1,d2⟩:=zAP (f:=f) np
 cases hd : zrv f with
 | mk D q =>
   rw [hd] at d1 d2
   cases q with
   | some x =>
     have : zft (zL f) 0 (zL f) = false:=d1.symm
     simp only
     rw [if_pos this]
   | none =>
     have hok : zft (zL f) 0 (zL f) = true:=d1.symm
     have R:=d2 hok
     simp only at R ⊢
     rw [hok,if_neg tf]
     have hsf : zbn (zM (zl f)) (zdn (zl f) 0 (-1)) 0 f.blocks = true:=by
      unfold zf9 at hs
      rw [yf] at hs
      exact hs.2
     have hOi : ∀ i : Nat,i < f.blocks.length → O (i : Int):=fun i hi => by
      have:=zkT _ _ _ _ hsf i _ (ye hi)
      unfold zjb at this
      rw [yf,yN] at this
      exact (zt7 hmk Q i).1 this.1
     have hr:=(zeA hmk).2.2
     have hsl : (zl f).length = f.blocks.length:=by simp [zl]
     have hU : ∀ u ∈ ze4 f,O u.block ∧ (u.at' = 1048576 ∨ (0 ≤ u.at' ∧ u.at' < 1000)):=by
      refine zkB f O f.blocks 0 fun j b hb => ?_
      have hj:=(ym.1 hb).1
      have hsb:=zkT _ _ _ _ hsf j b hb
      rw [yN] at hsb ⊢
      unfold zjb at hsb
      simp only [yf,yE] at hsb
      refine ⟨hOi j hj,zoP nsz b (List.mem_of_getElem? hb),fun p hp => ?_⟩
      have h1:=hsb.2.2 p hp
      unfold zhQ at h1
      simp only [yf,decide_eq_true_eq] at h1
      refine ⟨h1.2,fun x hx => ?_⟩
      rw [h1.1] at hx
      have:=(zl0 hr (x:=(j : Int)) ⟨by omega,by omega⟩ x).1 (by rw [yB]; exact hx)
      obtain ⟨y,hy⟩ : ∃ y : Nat,(y : Int) = x:=⟨x.toNat,by have:=this.1; omega⟩
      rw [← hy]
      exact hOi y (by have:=this.2.1; omega)
     have hDf : ∀ d ∈ zL f,(d.block < 0 ∨ O d.block) ∧ d.at' < 1000:=fun d hd' => by
      unfold zL at hd'
      rcases yh.1 hd' with hd' | hd'
      ·obtain ⟨e1,e2⟩:=zji _ _ d hd'
       exact ⟨.inl (by omega),by omega⟩
      ·obtain ⟨e1,e2,e3⟩:=zi4 f.blocks 0 (zoP nsz) d hd'
       refine ⟨.inr ?_,e3⟩
       obtain ⟨y,hy⟩ : ∃ y : Nat,(y : Int) = d.block:=⟨d.block.toNat,by omega⟩
       rw [← hy]
       exact hOi y (by omega)
     have f1:=zj3 (zkH D) 7 (by omega) (ze4 f) fun u _ => by unfold zkH; split <;> simp
     have a1 : (ze4 f).all (fun u => decide (zkH D u = 0)) = (zeV f).all (zjL (zL f)):=by
      unfold zeV
      rw [yI]
      refine zm9 fun u _ => ?_
      show decide (zkH D u = 0) = zjL (zL f) (zW u)
      have e:=(zj8 (zL f) u.v 0).1
      unfold zkH zjL
      rw [R u.v]
      show _ = !decide (zh u.v 0 (zL f) < 0)
      by_cases c : zh u.v 0 (zL f) < 0
      ·rw [if_pos (e.1 c),decide_eq_true c]; rfl
      ·rw [if_neg (fun h => c (e.2 h)),decide_eq_false c]; rfl
     rw [f1,a1]
     cases b1 : (zeV f).all (zjL (zL f))
     ·simp
     have hdef : ∀ u ∈ ze4 f,∃ p,lk (zL f) u.v = some p:=fun u hu => by
      have:=yE.1 b1 (zW u) (List.mem_map_of_mem hu)
      unfold zjL at this
      have e:=(zj8 (zL f) u.v 0).1
      cases h : lk (zL f) u.v with
      | some p => exact ⟨p,rfl⟩
      | none =>
        have hn:=e.2 (by rw [h]; rfl)
        have : (!decide (zh u.v 0 (zL f) < 0)) = true:=this
        rw [decide_eq_true hn] at this
        cases this
     have hat : ∀ u ∈ ze4 f,zk3 D u.v = toP (zhC (zL f) u.v):=fun u hu => by
      obtain ⟨p,hp⟩:=hdef u hu
      unfold zk3
      rw [R u.v,hp,zBu hp]
      rfl
     have f2:=zj3 (zb8 D) 6 (by omega) (ze4 f) fun u _ => by unfold zb8; split <;> simp
     have a2 : (ze4 f).all (fun u => decide (zb8 D u = 0)) = (zeV f).all (sameShape (zL f)):=by
      unfold zeV
      rw [yI]
      refine zm9 fun u hu => ?_
      show decide (zb8 D u = 0) = sameShape (zL f) (zW u)
      unfold zb8 sameShape
      rw [hat u hu]
      show decide ((if (zhC (zL f) u.v).shape = u.shape then (0 : Int) else 6) = 0) = decide ((zhC (zL f) u.v).shape = u.shape)
      by_cases c : (zhC (zL f) u.v).shape = u.shape
      ·rw [if_pos c,decide_eq_true c]; rfl
      ·rw [if_neg c,decide_eq_false c]; rfl
     rw [f2,a2]
     cases b2 : (zeV f).all (sameShape (zL f))
     ·simp
     have f3:=zj3 (za0 D (t.set 0 (-1))) 7 (by omega) (ze4 f) fun u _ => by
      unfold za0
      simp only
      split
      ·simp
      ·split <;> simp
     have a3 : (ze4 f).all (fun u => decide (za0 D (t.set 0 (-1)) u = 0)) = (zeV f).all (zgc (zL f) (zeZ (zl f) 0)):=by
      have e7 : zeZ (zl f) 0 = t.set 0 (-1):=zy9 hmk Q
      rw [e7]
      unfold zeV
      rw [yI]
      refine zm9 fun u hu => ?_
      show decide (za0 D (t.set 0 (-1)) u = 0) = zgc (zL f) (t.set 0 (-1)) (zW u)
      obtain ⟨uo,ua⟩:=hU u hu
      unfold za0 zgc
      rw [hat u hu]
      have hv1 : (zW u).v = u.v:=rfl
      have hb1 : (zW u).block = u.block:=rfl
      rw [hv1,hb1]
      obtain ⟨d,hd'⟩ : ∃ d,d = zhC (zL f) u.v:=⟨_,rfl⟩
      rw [← hd']
      have hdm : d ∈ zL f:=by
       obtain ⟨p,hp⟩:=hdef u hu
       have hi:=zj8 (zL f) u.v 0
       have h0 : 0 ≤ zh u.v 0 (zL f):=by
        by_cases c : zh u.v 0 (zL f) < 0
        ·have:=hi.1.1 c
         rw [hp] at this
         cases this
        ·omega
       have hlt:=zig u.v (zL f) 0 h0
       rw [hd']
       unfold zhC
       rw [ya,ye (by omega)]
       exact yl _
      obtain ⟨db,da⟩:=hDf d hdm
      show decide ((if d.block < 0 then (0 : Int) else if (d.block = u.block ∧ d.at' < u.at') ∨ (d.block ≠ u.block ∧ zky (t.set 0 (-1)) d.block u.block = true) then 0 else 7) = 0) = _
      by_cases c1 : d.block < 0
      ·rw [if_pos c1,decide_eq_true c1]; rfl
      ·rw [if_neg c1,decide_eq_false c1]
       have dO:=db.resolve_left c1
       have hmo:=zAo Q dO uo
       by_cases c2 : d.block = u.block
       ·have h3 : (d.at' < u.at') ↔ (d.at' < (zW u).at'):=by
         show _ ↔ d.at' < (if u.at' = 1048576 then 1000 else u.at')
         split <;> omega
        by_cases c3 : d.at' < u.at'
        ·rw [if_pos (.inl ⟨c2,c3⟩),decide_eq_true c2,decide_eq_true (h3.1 c3)]; rfl
        ·rw [if_neg (fun h => h.elim (fun h => c3 h.2) (fun h => h.1 c2)),decide_eq_true c2,decide_eq_false (fun h => c3 (h3.2 h))]; rfl
       ·rw [decide_eq_false c2]
        by_cases c4 : zky (t.set 0 (-1)) d.block u.block = true
        ·rw [if_pos (.inr ⟨c2,c4⟩),decide_eq_true (hmo.2 c4)]; rfl
        ·rw [if_neg (fun h => h.elim (fun h => c2 h.1) (fun h => c4 h.2)),decide_eq_false (fun h => c4 (hmo.1 h))]; rfl
     rw [f3,a3]
     cases b3 : (zeV f).all (zgc (zL f) (zeZ (zl f) 0)) <;> simp
theorem zAa {f : PFunc} (hf : okF f) (level : Int) : zpl f level (zCr f) = zaa f level:=by
 unfold zpl
 by_cases hlv : level < 0 ∨ 2 < level
 ·rw [if_pos hlv]
  unfold zaa
  rw [if_pos hlv]
 ·rw [if_neg hlv]
  cases hm : zlx f
  ·unfold zln zaa
   rw [if_neg hlv,if_pos hm,if_pos hm]
  ·exact (zx4 hf level hm).resolve_right hlv
end AC
namespace AC
open Go Go.A
abbrev zpG:=List (Int × Int)
def zhv (D : zpG) : List Int → List Int
 | [] => []
 | v :: r => match getM v D with
   | some k => k :: zhv D r
   | none => zhv D r
def zk4 (D : zpG) (imp : List Int) (o : POp) : List Int:=zm (zbX (zhv D o.args ++ if pure o.kind = true then [] else imp))
def zep (D : zpG) (k : Nat) (o : POp) : zpG:=if 0 < o.dst then zlq o.dst (k : Int) D else D
def ziM (imp : List Int) (k : Nat) (o : POp) : List Int:=if pure o.kind = true then imp else imp ++ [(k : Int)]
def zdo : Nat → zpG → List Int → List POp → List (List Int)
 | _,_,_,[] => []
 | k,D,imp,o :: r => zk4 D imp o :: zdo (k + 1) (zep D k o) (ziM imp k o) r
def zfA (b : PBlock) : List (List Int):=zdo 0 [] [] b.ops
theorem zgn : ∀ (ops : List POp) (k : Nat) (D : zpG) (imp : List Int),(zdo k D imp ops).length = ops.length
 | [],_,_,_ => rfl
 | o :: r,k,D,imp => by rw [zdo,yc,zgn r,yc]
theorem zlN (D : zpG) : ∀ l,(zhv D l).length ≤ l.length
 | [] => by simp [zhv]
 | v :: r => by
   rw [zhv]
   have:=zlN D r
   split
   ·simp only [yc]; omega
   ·simp only [yc]; omega
theorem zqL (D : zpG) (k : Int) : ∀ l,k ∈ zhv D l ↔ ∃ v ∈ l,getM v D = some k
 | [] => by simp [zhv]
 | v :: r => by
   rw [zhv]
   have ih:=zqL D k r
   cases e : getM v D with
   | none => simp [ih,e]
   | some j =>
     simp only [yd,ih,exists_eq_or_imp,e,Option.some.injEq]
     exact or_congr ⟨fun h => h.symm,fun h => h.symm⟩ yR
theorem zt4 {α : Type} (k v : Int) (a : α) : ∀ S : List (Int × α),getM v (zlq k a S) = if k = v then some a else getM v S
 | [] => rfl
 | e :: r => by
   simp only [zlq]
   by_cases c : e.1 = k
   ·rw [if_pos c,getM,getM]
    by_cases d : k = v
    ·rw [if_pos d,if_pos d]
    ·rw [if_neg d,if_neg d,if_neg (fun h => d (c.symm.trans h))]
   ·rw [if_neg c,getM,getM,zt4 k v a r]
    by_cases d : e.1 = v
    ·rw [if_pos d,if_pos d,if_neg (fun h => c (d.trans h.symm))]
    ·rw [if_neg d,if_neg d]
abbrev zEV (l : List Int) : Prop:=l.Pairwise (· < ·)
theorem zin (x : Int) : ∀ l,x ∈ zm l ↔ x ∈ l
 | [] => yR
 | [y] => yR
 | y :: z :: r => by
   rw [zm]
   by_cases c : y = z
   ·rw [if_pos c,zin x (z :: r),c]
    simp
   ·rw [if_neg c,yd,zin x (z :: r),yd (l:=z :: r)]
theorem zjO : ∀ l : List Int,l.Pairwise (· ≤ ·) → zEV (zm l)
 | [],_ => List.Pairwise.nil
 | [y],_ => by simp [zm]
 | y :: z :: r,h => by
   rw [zm]
   have ht:=(yi.1 h).2
   by_cases c : y = z
   ·rw [if_pos c]; exact zjO _ ht
   ·rw [if_neg c]
    refine yi.2 ⟨fun x hx => ?_,zjO _ ht⟩
    rw [zin] at hx
    have h1:=(yi.1 h).1 z yb
    have h2 : z ≤ x:=by
     rcases yd.1 hx with rfl | hx
     ·exact yH _
     ·exact (yi.1 ht).1 x hx
    omega
theorem zBK (x : Int) (l : List Int) : x ∈ zbX l ↔ x ∈ l:=by
 unfold zbX
 exact (List.mergeSort_perm l _).mem_iff
theorem zCZ (l : List Int) : (zbX l).Pairwise (· ≤ ·):=by
 unfold zbX
 refine (List.pairwise_mergeSort (fun a b c h1 h2 => ?_) (fun a b => ?_) l).imp fun h => by simpa using h
 ·simp only [decide_eq_true_eq] at *; omega
 ·simp only [yn,decide_eq_true_eq]; omega
theorem zu4 : ∀ {a b : List Int},zEV a → zEV b → (∀ x,x ∈ a ↔ x ∈ b) → a = b
 | [],[],_,_,_ => rfl
 | [],y :: b,_,_,h => absurd ((h y).2 yb) (by simp)
 | x :: a,[],_,_,h => absurd ((h x).1 yb) (by simp)
 | x :: a,y :: b,ha,hb,h => by
   obtain ⟨a1,a2⟩:=yi.1 ha
   obtain ⟨b1,b2⟩:=yi.1 hb
   have e : x = y:=by
    rcases yd.1 ((h x).1 yb) with e | hx
    ·exact e
    ·rcases yd.1 ((h y).2 yb) with e | hy
     ·exact e.symm
     ·have:=a1 y hy; have:=b1 x hx; omega
   subst e
   congr 1
   refine zu4 a2 b2 fun z => ⟨fun hz => ?_,fun hz => ?_⟩
   ·rcases yd.1 ((h z).1 (yg _ hz)) with rfl | h'
    ·exact absurd (a1 z hz) (yK _)
    ·exact h'
   ·rcases yd.1 ((h z).2 (yg _ hz)) with rfl | h'
    ·exact absurd (b1 z hz) (yK _)
    ·exact h'
def op0 : POp:=⟨0,0,0,0,[],0⟩
def onB (ops : List POp) (a k : Nat) : Bool:=decide (k < a) && ((decide ((ops.getD k op0).dst ≠ 0) && decide ((ops.getD k op0).dst ∈ (ops.getD a op0).args)) || (!pure (ops.getD k op0).kind && !pure (ops.getD a op0).kind))
def zhd (ops : List POp) (a : Nat) : List Int:=((yj a).filter (onB ops a)).map yP
theorem zpo {ops : List POp} {a : Nat} {x : Int} : x ∈ zhd ops a ↔ ∃ k : Nat,(k : Int) = x ∧ onB ops a k = true:=by
 unfold zhd
 rw [yw]
 constructor
 ·rintro ⟨k,hk,rfl⟩
  exact ⟨k,rfl,(yo.1 hk).2⟩
 ·rintro ⟨k,rfl,hk⟩
  refine ⟨k,yo.2 ⟨?_,hk⟩,rfl⟩
  unfold onB at hk
  simp only [yf,decide_eq_true_eq] at hk
  exact yk.2 hk.1
theorem zwu (ops : List POp) (a : Nat) : zEV (zhd ops a):=by
 unfold zhd
 refine List.Pairwise.map (R:=(· < ·)) _ (fun x y h => by simpa using h) ?_
 exact List.Pairwise.filter _ List.pairwise_lt_range
structure OneDef (ops : List POp) : Prop where
 pos : ∀ o ∈ ops,0 ≤ o.dst
 one : ∀ i j (hi : i < ops.length) (hj : j < ops.length),0 < ops[i].dst → ops[i].dst = ops[j].dst → i = j
def zBL (ops : List POp) (k : Nat) (D : zpG) : Prop:=∀ v x,getM v D = some x ↔ ∃ j : Nat,(j : Int) = x ∧ j < k ∧ 0 < v ∧ (ops.getD j op0).dst = v
def zwx (ops : List POp) (k : Nat) : List Int:=((yj k).filter fun j => !pure (ops.getD j op0).kind).map yP
theorem zwC (ops : List POp) (k : Nat) (hk : k < ops.length) : zwx ops (k + 1) = ziM (zwx ops k) k ops[k]:=by
 unfold zwx ziM
 rw [yJ,List.filter_append,List.map_append]
 have e : ops.getD k op0 = ops[k]:=by rw [ya,ye hk]; rfl
 cases c : pure ops[k].kind
 ·rw [yF,e,c]; rfl
 ·rw [yF,e,c]; simp
theorem zwq {ops : List POp} (h1 : OneDef ops) {k : Nat} (hk : k < ops.length) {D : zpG} (h : zBL ops k D) : zBL ops (k + 1) (zep D k ops[k]):=by
 have e : ∀ j (hj : j < ops.length),ops.getD j op0 = ops[j]:=fun j hj => by rw [ya,ye hj]; rfl
 intro v x
 unfold zep
 by_cases c : 0 < ops[k].dst
 ·rw [if_pos c,zt4]
  by_cases d : ops[k].dst = v
  ·rw [if_pos d]
   constructor
   ·intro hx
    exact ⟨k,by simpa using hx,by omega,by omega,by rw [e k hk]; exact d⟩
   ·rintro ⟨j,rfl,hj,hv,hd⟩
    have hjl : j < ops.length:=by omega
    rw [e j hjl] at hd
    have:=h1.one k j hk hjl c (by rw [d,hd])
    rw [this]
  ·rw [if_neg d,h v x]
   constructor
   ·rintro ⟨j,h1,h2,h3,h4⟩
    exact ⟨j,h1,by omega,h3,h4⟩
   ·rintro ⟨j,h1,h2,h3,h4⟩
    refine ⟨j,h1,?_,h3,h4⟩
    rcases yp.1 h2 with h | rfl
    ·exact h
    ·rw [e j hk] at h4; exact absurd h4 d
 ·rw [if_neg c,h v x]
  constructor
  ·rintro ⟨j,h1,h2,h3,h4⟩
   exact ⟨j,h1,by omega,h3,h4⟩
  ·rintro ⟨j,h1,h2,h3,h4⟩
   refine ⟨j,h1,?_,h3,h4⟩
   rcases yp.1 h2 with h | rfl
   ·exact h
   ·rw [e j hk] at h4; omega
theorem zEp {ops : List POp} (h1 : OneDef ops) {k : Nat} (hk : k < ops.length) {D : zpG} (h : zBL ops k D) : zk4 D (zwx ops k) ops[k] = zhd ops k:=by
 have e : ∀ j (hj : j < ops.length),ops.getD j op0 = ops[j]:=fun j hj => by rw [ya,ye hj]; rfl
 unfold zk4
 refine zu4 (zjO _ (zCZ _)) (zwu _ _) fun x => ?_
 rw [zin,zBK,yh,zqL,zpo]
 constructor
 ·rintro (⟨v,hv,hx⟩ | hx)
  ·obtain ⟨j,rfl,hj,h0,hd⟩:=(h v x).1 hx
   refine ⟨j,rfl,?_⟩
   unfold onB
   rw [e k hk,hd]
   simp only [yf,yn,decide_eq_true_eq]
   exact ⟨hj,.inl ⟨by omega,hv⟩⟩
  ·split at hx
   ·simp at hx
   ·rename_i c
    unfold zwx at hx
    obtain ⟨j,hj,rfl⟩:=yw.1 hx
    obtain ⟨hj1,hj2⟩:=yo.1 hj
    refine ⟨j,rfl,?_⟩
    unfold onB
    rw [e k hk]
    simp only [yf,yn,decide_eq_true_eq]
    exact ⟨yk.1 hj1,.inr ⟨hj2,by simpa using c⟩⟩
 ·rintro ⟨j,rfl,hj⟩
  unfold onB at hj
  rw [e k hk] at hj
  simp only [yf,yn,decide_eq_true_eq] at hj
  obtain ⟨hjk,hj | hj⟩:=hj
  ·refine .inl ⟨_,hj.2,(h _ _).2 ⟨j,rfl,hjk,?_,rfl⟩⟩
   have h0:=h1.pos ops[j] (yl (by omega))
   have hn:=hj.1
   rw [e j (by omega)] at hn ⊢
   omega
  ·refine .inr ?_
   rw [if_neg (by simpa using hj.2)]
   exact yw.2 ⟨j,yo.2 ⟨yk.2 hjk,hj.1⟩,rfl⟩
theorem zns {ops : List POp} (h1 : OneDef ops) : ∀ (d k : Nat) (D : zpG),ops.length - k = d → k ≤ ops.length → zBL ops k D → zdo k D (zwx ops k) (ops.drop k) = (List.range' k d).map (zhd ops)
 | 0,k,D,h2,h3,_ => by
   have : ops.drop k = []:=List.drop_eq_nil_of_le (by omega)
   rw [this]; rfl
 | d + 1,k,D,h2,h3,h => by
   have hk : k < ops.length:=by omega
   rw [List.drop_eq_getElem_cons hk,zdo,zEp h1 hk h,← zwC ops k hk,zns h1 d (k + 1) _ (by omega) (by omega) (zwq h1 hk h)]
   rfl
theorem zrw {b : PBlock} (h1 : OneDef b.ops) : zfA b = (yj b.ops.length).map (zhd b.ops):=by
 unfold zfA
 have:=zns h1 b.ops.length 0 [] rfl (Nat.zero_le _) (fun v x => by simp [getM])
 rw [List.drop_zero] at this
 rw [List.range_eq_range']
 exact this
theorem zrh {ops : List POp} {a : Nat} {x : Int} (h : x ∈ zhd ops a) : 0 ≤ x ∧ x < (a : Int):=by
 obtain ⟨k,rfl,hk⟩:=zpo.1 h
 unfold onB at hk
 simp only [yf,decide_eq_true_eq] at hk
 exact ⟨by omega,by have:=hk.1; omega⟩
end AC
namespace AC
open Go Go.A
def ints (n : Nat) : List Int:=(yj n).map yP
theorem zvm {n : Nat} {x : Int} : x ∈ ints n ↔ 0 ≤ x ∧ x < (n : Int):=by
 unfold ints
 rw [yw]
 constructor
 ·rintro ⟨k,hk,rfl⟩
  have:=yk.1 hk
  exact ⟨by show (0 : Int) ≤ (k : Int); omega,by show (k : Int) < _; omega⟩
 ·rintro ⟨h1,h2⟩
  exact ⟨x.toNat,yk.2 (by omega),by show (x.toNat : Int) = x; omega⟩
theorem zAO (n : Nat) : (ints n).length = n:=by simp [ints]
theorem zwo (n : Nat) : (ints n).Nodup:=by
 unfold ints
 refine List.Pairwise.map (R:=(· ≠ ·)) _ (fun x y h e => h ?_) List.nodup_range
 exact Int.ofNat.inj e
theorem zzn (n : Nat) : ints (n + 1) = ints n ++ [(n : Int)]:=by simp [ints,yJ]
theorem zoC : ∀ (n : Nat) (l : List Int),l.length = n → (∀ i : Nat,i < n → (i : Int) ∈ l) → l.Perm (ints n)
 | 0,l,h,_ => by
   rw [List.eq_nil_of_length_eq_zero h]
   exact List.Perm.refl _
 | n + 1,l,h,hm => by
   have hn:=hm n (Nat.lt_succ_self n)
   have p:=List.perm_cons_erase hn
   have hl : (l.erase (n : Int)).length = n:=by rw [List.length_erase_of_mem hn]; omega
   have ih:=zoC n (l.erase (n : Int)) hl fun i hi => (List.mem_erase_of_ne (by omega)).2 (hm i (by omega))
   rw [zzn]
   exact p.trans ((List.Perm.cons _ ih).trans (List.perm_append_singleton _ _).symm)
theorem zq4 {n : Nat} {l : List Int} (h : l.length = n) (hd : l.Nodup) (hr : ∀ x ∈ l,0 ≤ x ∧ x < (n : Int)) : l.Perm (ints n):=by
 refine zoC n l h fun i hi => ?_
 refine Classical.byContradiction fun hn => ?_
 have:=zhY (l:=(i : Int) :: l) (n:=n) (List.nodup_cons.2 ⟨hn,hd⟩) fun x hx => by
  rcases yd.1 hx with rfl | hx
  ·exact ⟨by omega,by omega⟩
  ·exact hr x hx
 simp only [yc] at this
 omega
theorem zwX {l : List Int} : l.Nodup ↔ ∀ i (hi : i < l.length),l[i] ∉ l.take i:=by
 constructor
 ·intro h i hi hm
  obtain ⟨j,hj,e⟩:=yz.1 hm
  simp only [yG] at hj
  rw [yD] at e
  have:=(List.getElem_inj (h₀:=by omega) (h₁:=hi) h).1 e
  omega
 ·intro h
  unfold List.Nodup
  rw [List.pairwise_iff_getElem]
  intro i j hi hj hij e
  refine h j hj (yz.2 ⟨i,by simp only [yG]; omega,?_⟩)
  rw [yD]; exact e
structure LegalP (ops : List POp) (order : List Int) : Prop where
 perm : order.Perm (ints ops.length)
 ahead : ∀ i k (hi : i < order.length) (hk : k < order.length),i < k → onB ops order[i].toNat order[k].toNat = false
theorem LegalP.len {ops : List POp} {order : List Int} (h : LegalP ops order) : order.length = ops.length:=by rw [h.perm.length_eq,zAO]
theorem LegalP.nodup {ops : List POp} {order : List Int} (h : LegalP ops order) : order.Nodup:=h.perm.nodup_iff.2 (zwo _)
theorem LegalP.range {ops : List POp} {order : List Int} (h : LegalP ops order) : ∀ x ∈ order,0 ≤ x ∧ x < (ops.length : Int):=fun x hx => zvm.1 (h.perm.mem_iff.1 hx)
theorem LegalP.all {ops : List POp} {order : List Int} (h : LegalP ops order) {x : Int} (h1 : 0 ≤ x) (h2 : x < (ops.length : Int)) : x ∈ order:=h.perm.mem_iff.2 (zvm.2 ⟨h1,h2⟩)
theorem getD_map {α : Type} (g : Nat → List α) (n k : Nat) (hk : k < n) : ((yj n).map g).getD k [] = g k:=by
 rw [ya,yu,yA hk]; rfl
def zuH (on : List (List Int)) (out : List Int) (a : Nat) : Bool:=!decide ((a : Int) ∈ out) && (on.getD a []).all fun y => decide (y ∈ out)
structure OutIs (ops : List POp) (out : List Int) : Prop where
 nodup : out.Nodup
 range : ∀ x ∈ out,0 ≤ x ∧ x < (ops.length : Int)
 ahead : ∀ i (hi : i < out.length),∀ y ∈ zhd ops out[i].toNat,y ∈ out.take i
theorem OutIs.le {ops : List POp} {out : List Int} (h : OutIs ops out) : out.length ≤ ops.length:=zhY h.nodup h.range
theorem zyZ {ops : List POp} {out : List Int} {a : Nat} (ha : a < ops.length) : zuH ((yj ops.length).map (zhd ops)) out a = true ↔ (a : Int) ∉ out ∧ ∀ y ∈ zhd ops a,y ∈ out:=by
 unfold zuH
 rw [getD_map _ _ _ ha]
 simp
theorem OutIs.step {ops : List POp} {out : List Int} (h : OutIs ops out) {a : Nat} (ha : a < ops.length) (hr : zuH ((yj ops.length).map (zhd ops)) out a = true) : OutIs ops (out ++ [(a : Int)]):=by
 obtain ⟨h1,h2⟩:=(zyZ ha).1 hr
 refine ⟨?_,fun x hx => ?_,fun i hi y hy => ?_⟩
 ·rw [List.nodup_append]
  refine ⟨h.nodup,by simp,fun x hx y hy e => ?_⟩
  rw [yr.1 hy] at e
  exact h1 (e ▸ hx)
 ·rcases yh.1 hx with hx | hx
  ·exact h.range x hx
  ·rw [yr.1 hx]; omega
 ·by_cases c : i < out.length
  ·rw [List.getElem_append_left c] at hy
   have:=h.ahead i c y hy
   rw [List.take_append_of_le_length (by omega)]
   exact this
  ·have e : i = out.length:=by simp at hi; omega
   subst e
   rw [List.getElem_append_right (yQ _)] at hy
   simp only [yO,List.getElem_singleton,yB] at hy
   rw [yL]
   exact h2 y hy
theorem OutIs.legal {ops : List POp} {out : List Int} (h : OutIs ops out) (hl : out.length = ops.length) : LegalP ops out:=by
 refine ⟨zq4 hl h.nodup h.range,fun i k hi hk hik => ?_⟩
 cases c : onB ops out[i].toNat out[k].toNat with
 | false => rfl
 | true =>
   exfalso
   have hk0:=(h.range _ (yl hk)).1
   have hm:=h.ahead i hi out[k] (zpo.2 ⟨out[k].toNat,by omega,c⟩)
   exact zwX.1 h.nodup k hk (List.mem_of_mem_take (i:=i) (by rw [List.take_take,Nat.min_eq_left (by omega)]; exact hm))
def zaC (out : List Int) (l : List Int) : Int:=l.foldl (fun n k => max n (out.getD k.toNat 0 + 1)) 0
def zc2 : List Int → List (List Int) → List Int
 | out,[] => out
 | out,l :: r => zc2 (out ++ [zaC out l]) r
def zfz (b : PBlock) : List Int:=zc2 [] (zfA b)
theorem zkA : ∀ (r : List (List Int)) (out : List Int),(zc2 out r).length = out.length + r.length
 | [],out => rfl
 | l :: r,out => by rw [zc2,zkA r]; simp only [ys,yc,List.length_nil]; omega
theorem zoY : ∀ (r : List (List Int)) (out : List Int),∃ t,zc2 out r = out ++ t
 | [],out => ⟨[],by simp [zc2]⟩
 | l :: r,out => by
   obtain ⟨t,h⟩:=zoY r (out ++ [zaC out l])
   exact ⟨zaC out l :: t,by rw [zc2,h,yv]; rfl⟩
theorem zmm {out out' : List Int} {a : Nat} (h : out = out'.take a) : ∀ (l : List Int) (n : Int),(∀ k ∈ l,0 ≤ k ∧ k < (a : Int)) → l.foldl (fun n k => max n (out.getD k.toNat 0 + 1)) n = l.foldl (fun n k => max n (out'.getD k.toNat 0 + 1)) n
 | [],_,_ => rfl
 | k :: l,n,hk => by
   rw [yq,yq]
   have hk0:=hk k yb
   have e : out.getD k.toNat 0 = out'.getD k.toNat 0:=by
    rw [h,ya,ya,List.getElem?_take_of_lt (by omega)]
   rw [e]
   exact zmm h l _ fun x hx => hk x (yg _ hx)
theorem zqE : ∀ (r : List (List Int)) (out : List Int),(∀ i l,r[i]? = some l → ∀ k ∈ l,0 ≤ k ∧ k < ((out.length + i : Nat) : Int)) → ∀ i l,r[i]? = some l → (zc2 out r)[out.length + i]? = some (zaC (zc2 out r) l)
 | [],_,_,i,l,h => by simp at h
 | l0 :: r,out,hr,i,l,h => by
   rw [zc2]
   cases i with
   | zero =>
     simp only [yt,Option.some.injEq] at h
     subst h
     obtain ⟨t,ht⟩:=zoY r (out ++ [zaC out l0])
     have hk:=hr 0 l0 rfl
     have e : zaC (zc2 (out ++ [zaC out l0]) r) l0 = zaC out l0:=by
      have:=zmm (out:=out) (out':=zc2 (out ++ [zaC out l0]) r) (a:=out.length) (by rw [ht,yv,yL]) l0 0 (fun k h => by simpa using hk k h)
      exact this.symm
     rw [e,ht,yM,yv,List.getElem?_append_right (yQ _),yO]
     rfl
   | succ i =>
     have ih:=zqE r (out ++ [zaC out l0]) (fun j l' hj k hk => by
      have:=hr (j + 1) l' (by simpa using hj) k hk
      rw [ys,yx]
      omega) i l (by simpa using h)
     rw [ys,yx] at ih
     rw [← ih]
     congr 1
     omega
theorem zm0 {g : Int → Int} : ∀ (l : List Int) (n : Int),n ≤ l.foldl (fun n k => max n (g k)) n ∧ ∀ k ∈ l,g k ≤ l.foldl (fun n k => max n (g k)) n
 | [],n => ⟨yH _,fun _ h => by simp at h⟩
 | x :: l,n => by
   obtain ⟨h1,h2⟩:=zm0 (g:=g) l (max n (g x))
   rw [yq]
   refine ⟨by omega,fun k hk => ?_⟩
   rcases yd.1 hk with rfl | hk
   ·omega
   ·exact h2 k hk
theorem zqA {g : Int → Int} : ∀ (l : List Int) (n : Int),l.foldl (fun n k => max n (g k)) n = n ∨ ∃ k ∈ l,l.foldl (fun n k => max n (g k)) n = g k
 | [],n => .inl rfl
 | x :: l,n => by
   rw [yq]
   rcases zqA (g:=g) l (max n (g x)) with h | ⟨k,hk,h⟩
   ·rcases Int.le_total n (g x) with c | c
    ·exact .inr ⟨x,yb,by rw [h]; omega⟩
    ·exact .inl (by rw [h]; omega)
   ·exact .inr ⟨k,yg _ hk,h⟩
theorem zAE {b : PBlock} (h1 : OneDef b.ops) {a : Nat} (ha : a < b.ops.length) : (zfz b)[a]? = some (zaC (zfz b) (zhd b.ops a)):=by
 unfold zfz
 rw [zrw h1]
 have:=zqE ((yj b.ops.length).map (zhd b.ops)) [] (fun i l h k hk => by
  rw [yu] at h
  cases c : (yj b.ops.length)[i]? with
  | none => rw [c] at h; cases h
  | some j =>
    rw [c] at h
    have hj : j = i:=by
     have:=(ym.1 c).2
     simpa using this.symm
    simp only [Option.map_some,Option.some.injEq] at h
    subst h; subst hj
    simpa using zrh hk) a (zhd b.ops a) (by rw [yu,yA ha]; rfl)
 simpa using this
theorem zx0 (b : PBlock) : (zfz b).length = b.ops.length:=by
 unfold zfz zfA
 rw [zkA,zgn]
 simp
end AC

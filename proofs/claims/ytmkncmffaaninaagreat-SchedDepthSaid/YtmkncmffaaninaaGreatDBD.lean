/- A part of the proof of SchedDepth. Conditions: none. -/
import Derived.Test.YtmkncmffaaninaaGreatDBA
import Derived.Test.YtmkncmffaaninaaGreatDBC
import Derived.Test.YtmkncmffaaninaaGreatDBB
import Derived.Test.YtmkncmffaaninaaGreatDAT
set_option linter.unusedVariables false
set_option linter.unusedSimpArgs false
set_option linter.unusedSectionVars false
open Int renaming toNat_natCast → ya,natCast_nonneg → yg
open List renaming length_cons → yb,getElem?_eq_none → yc,getElem?_eq_getElem → yd,getD_eq_getElem?_getD → ye,length_nil → yf,ext_getElem? → yh,mem_cons_self → yi,mem_cons_of_mem → yk,length_append → yl,count_cons → ym,take_of_length_le → yo,getElem?_set → yp,getElem_mem → yq,length_reverse → yr,getElem?_eq_some_iff → ys,length_set → yt,getElem?_replicate → yu,mem_cons → yv,foldl_cons → yw,take_left' → yx,map_append → yy,getD_cons_zero → yz,map_set → yA,set_set → yK,map → yL
open Option renaming bind_some → yn,getD_some → yF
open Bool renaming not_eq_true' → yB,and_eq_true → yC,not_eq_true → yD
open Nat renaming mul_one → yE,add_zero → yG,zero_add → yH,le_refl → yI,zero_le → yJ
namespace AC
open Go Go.A Go.A.Lex
open Dm
inductive RW (succ : List (List Int)) (root w : Int) : Int → Prop
 | root : root ≠ w → RW succ root w root
 | step {p x : Int} : RW succ root w p → Eg succ p x → x ≠ w → RW succ root w x
def leB (a b : List Bool) : Prop:=∀ j : Nat,a.getD j false = true → b.getD j false = true
theorem leB.trans {a b c : List Bool} (h : leB a b) (k : leB b c) : leB a c:=fun j hj => k j (h j hj)
theorem zn3 (w : Int) : ∀ (l : List Int) (out : List Bool),leB out (l.foldl (mark w) out)
 | [],out => fun j h => h
 | y :: l,out => fun j h => by
   rw [yw]
   exact zn3 w l (mark w out y) j (zsK h)
theorem zva (w : Int) : ∀ (l : List Int) (out : List Bool),(∀ y ∈ l,0 ≤ y ∧ y < (out.length : Int)) → ∀ y ∈ l,y ≠ w → (l.foldl (mark w) out).getD y.toNat false = true
 | [],_,_ => by simp
 | x :: l,out,hr => fun y hy hw => by
   rw [yw]
   have hr' : ∀ z ∈ l,0 ≤ z ∧ z < ((mark w out x).length : Int):=fun z hz => by rw [zk5]; exact hr z (yk _ hz)
   rcases yv.1 hy with rfl | hy
   ·refine zn3 w l _ _ ?_
    have:=hr y yi
    unfold mark
    rw [if_neg hw,zbh _ _ (by omega)]
   ·exact zva w l _ hr' y hy hw
theorem zl2 (w : Int) : ∀ (r : List (List Int)) (i : Nat) (out : List Bool),leB out (zi7 w i r out)
 | [],_,_ => fun j h => h
 | l :: r,i,out => by
   rw [zi7]
   refine leB.trans ?_ (zl2 w r (i + 1) _)
   split
   ·exact zn3 w l out
   ·exact fun j h => h
theorem znt (w : Int) (n : Nat) : ∀ (r : List (List Int)) (i : Nat) (out : List Bool),out.length = n → (∀ l ∈ r,∀ y ∈ l,0 ≤ y ∧ y < (n : Int)) → leB (zi7 w i r out) out →
  ∀ (j : Nat) (l : List Int),r[j]? = some l → out.getD (i + j) false = true → ∀ y ∈ l,y ≠ w → out.getD y.toNat false = true
 | [],_,_,_,_,_ => by simp
 | l :: r,i,out,ho,hr,hle => by
   intro j q hq hj y hy hw
   rw [zi7] at hle
   obtain ⟨o1,ho1⟩ : ∃ o1,o1 = (if out.getD i false = true then l.foldl (mark w) out else out):=⟨_,rfl⟩
   rw [← ho1] at hle
   have h1 : leB out o1:=by
    rw [ho1]
    split
    ·exact zn3 w l out
    ·exact fun j h => h
   have h2 : leB o1 out:=leB.trans (zl2 w r (i + 1) o1) hle
   have hl1 : o1.length = n:=by
    rw [ho1]
    split
    ·rw [zhl]; exact ho
    ·exact ho
   cases j with
   | zero =>
     simp only [List.getElem?_cons_zero,Option.some.injEq] at hq
     subst hq
     rw [yG] at hj
     refine h2 _ ?_
     rw [ho1,if_pos hj]
     exact zva w l out (fun z hz => by rw [ho]; exact hr l yi z hz) y hy hw
   | succ j =>
     have:=znt w n r (i + 1) o1 hl1 (fun l hl => hr l (yk _ hl)) (leB.trans hle h1) j q (by simpa using hq) (by rw [show i + 1 + j = i + (j + 1) by omega]; exact h1 _ hj) y hy hw
     exact h2 _ this
theorem count_le : ∀ (a b : List Bool),a.length = b.length → leB a b → a.count true ≤ b.count true ∧ ((∃ j,b.getD j false = true ∧ a.getD j false = false) → a.count true < b.count true)
 | [],b,h,_ => by
   have : b = []:=List.eq_nil_of_length_eq_zero (by simpa using h.symm)
   subst this
   simp
 | x :: a,[],h,_ => by simp at h
 | x :: a,y :: b,h,hle => by
   have ht : leB a b:=fun j hj => by
    have:=hle (j + 1) (by simpa using hj)
    simpa using this
   have h0:=hle 0
   simp only [yz] at h0
   obtain ⟨i1,i2⟩:=count_le a b (by simpa using h) ht
   constructor
   ·rw [ym,ym]
    cases x <;> cases y <;> simp at h0 ⊢ <;> omega
   ·rintro ⟨j,h1,h2⟩
    cases j with
    | zero =>
      simp only [yz] at h1 h2
      subst h1 h2
      rw [ym,ym]
      simp
      omega
    | succ j =>
      have:=i2 ⟨j,by simpa using h1,by simpa using h2⟩
      rw [ym,ym]
      cases x <;> cases y <;> simp at h0 ⊢ <;> omega
theorem zEg {a b : List Bool} (hl : a.length = b.length) (h : leB a b) (k : leB b a) : a = b:=by
 apply yh
 intro j
 by_cases c : j < a.length
 ·have cb : j < b.length:=by omega
  have e1 : a.getD j false = a[j]:=by rw [ye,yd c]; rfl
  have e2 : b.getD j false = b[j]:=by rw [ye,yd cb]; rfl
  have h1:=h j
  have h2:=k j
  rw [e1,e2] at h1 h2
  rw [yd c,yd cb]
  congr 1
  cases ha : a[j] <;> cases hb : b[j] <;> simp_all
 ·rw [yc (by omega),yc (by omega)]
section
variable {succ : List (List Int)} (hr : ∀ l ∈ succ,∀ y ∈ l,0 ≤ y ∧ y < (succ.length : Int)) (root w : Int)
def zhp (succ : List (List Int)) (w : Int) (out : List Bool) : Prop:=∀ (j : Nat) (l : List Int),succ[j]? = some l → out.getD j false = true → ∀ y ∈ l,y ≠ w → out.getD y.toNat false = true
include hr
theorem zlL : ∀ (r : Nat) (out : List Bool),out.length = succ.length → zhp succ w (ze0 w succ r out) ∨ out.count true + r ≤ (ze0 w succ r out).count true
 | 0,out,_ => .inr (yI _)
 | r + 1,out,ho => by
   rw [ze0]
   have hl:=zhi w succ 0 out
   by_cases c : leB (zi7 w 0 succ out) out
   ·have e:=zEg hl c (zl2 w succ 0 out)
    have hc : zhp succ w out:=fun j l h1 h2 => znt w succ.length succ 0 out ho hr c j l h1 (by rw [yH]; exact h2)
    have st : ∀ k,ze0 w succ k out = out:=by
     intro k
     induction k with
     | zero => rfl
     | succ k ih => rw [ze0,e,ih]
    left
    rw [e,st]
    exact hc
   ·have hlt : out.count true < (zi7 w 0 succ out).count true:=by
     refine (count_le out _ hl.symm (zl2 w succ 0 out)).2 ?_
     have hex : ∃ j,¬ ((zi7 w 0 succ out).getD j false = true → out.getD j false = true):=Classical.not_forall.1 c
     obtain ⟨j,hj⟩:=hex
     have hj2:=Classical.not_imp.1 hj
     exact ⟨j,hj2.1,by simpa using hj2.2⟩
    rcases zlL r (zi7 w 0 succ out) (by rw [hl]; exact ho) with h | h
    ·exact .inl h
    ·right; omega
theorem zww {out : List Bool} (P : Int → Prop) (h : ∀ j : Nat,out.getD j false = true → P (j : Int)) {y : Int} (h0 : 0 ≤ y) (hy : y ≠ w → P y) : ∀ j : Nat,(mark w out y).getD j false = true → P (j : Int):=by
 intro j hj
 unfold mark at hj
 split at hj
 ·exact h j hj
 ·rename_i c
  by_cases e : y.toNat = j
  ·rw [show (j : Int) = y by omega]
   exact hy c
  ·rw [getD_set_ne _ _ e] at hj
   exact h j hj
theorem zo7 (P : Int → Prop) : ∀ (l : List Int) (out : List Bool),(∀ j : Nat,out.getD j false = true → P (j : Int)) → (∀ y ∈ l,0 ≤ y ∧ (y ≠ w → P y)) → ∀ j : Nat,(l.foldl (mark w) out).getD j false = true → P (j : Int)
 | [],_,h,_ => h
 | y :: l,out,h,hl => by
   rw [yw]
   exact zo7 P l _ (zww hr w P h (hl y yi).1 (hl y yi).2) fun z hz => hl z (yk _ hz)
theorem zoh (P : Int → Prop) (hP : ∀ p x,P p → Eg succ p x → x ≠ w → P x) : ∀ (r : List (List Int)) (i : Nat) (out : List Bool),(∀ j l,r[j]? = some l → succ[i + j]? = some l) → (∀ j : Nat,out.getD j false = true → P (j : Int)) → ∀ j : Nat,(zi7 w i r out).getD j false = true → P (j : Int)
 | [],_,_,_,h => h
 | l :: r,i,out,hs,h => by
   rw [zi7]
   refine zoh P hP r (i + 1) _ (fun j q hq => ?_) ?_
   ·have:=hs (j + 1) q (by simpa using hq)
    rwa [show i + (j + 1) = i + 1 + j by omega] at this
   ·split
    ·rename_i c
     have hl:=hs 0 l rfl
     rw [yG] at hl
     have hlm:=List.mem_of_getElem? hl
     have hi:=(ys.1 hl).1
     refine zo7 hr w P l out h fun y hy => ⟨(hr l hlm y hy).1,fun hw => hP (i : Int) y (h i c) ⟨by omega,by omega,?_⟩ hw⟩
     rw [ya,ye,hl]
     exact hy
    ·exact h
theorem znn (P : Int → Prop) (hP : ∀ p x,P p → Eg succ p x → x ≠ w → P x) : ∀ (r : Nat) (out : List Bool),(∀ j : Nat,out.getD j false = true → P (j : Int)) → ∀ j : Nat,(ze0 w succ r out).getD j false = true → P (j : Int)
 | 0,_,h => h
 | r + 1,out,h => by
   rw [ze0]
   exact znn P hP r _ (zoh hr w P hP succ 0 out (fun j l hj => by rw [yH]; exact hj) h)
theorem zsL : ∀ (r : Nat) (out : List Bool),leB out (ze0 w succ r out)
 | 0,_ => fun j h => h
 | r + 1,out => by
   rw [ze0]
   exact leB.trans (zl2 w succ 0 out) (zsL r _)
theorem zsz (h0 : 0 ≤ root ∧ root < (succ.length : Int)) (j : Nat) : (zdn succ root w).getD j false = true ↔ RW succ root w (j : Int):=by
 unfold zdn
 by_cases c : root = w
 ·rw [if_pos c]
  constructor
  ·intro h
   rw [ye,yu] at h
   split at h <;> simp at h
  ·intro h
   exfalso
   have key : ∀ x,RW succ root w x → False:=fun x hx => by
    induction hx with
    | root h => exact h c
    | step _ _ _ ih => exact ih
   exact key _ h
 ·rw [if_neg c]
  obtain ⟨o0,ho0⟩ : ∃ o,o = (List.replicate succ.length false).set root.toNat true:=⟨_,rfl⟩
  have hl0 : o0.length = succ.length:=by rw [ho0]; simp
  have hroot : o0.getD root.toNat false = true:=by rw [ho0,zbh _ _ (by simp; omega)]
  rw [← ho0]
  constructor
  ·refine znn hr w (RW succ root w) (fun p x hp e hx => .step hp e hx) succ.length o0 (fun i hi => ?_) j
   rw [ho0] at hi
   by_cases e : root.toNat = i
   ·rw [show (i : Int) = root by omega]
    exact .root c
   ·rw [getD_set_ne _ _ e,ye,yu] at hi
    split at hi <;> simp at hi
  ·have hcl : zhp succ w (ze0 w succ succ.length o0):=by
    rcases zlL hr w succ.length o0 hl0 with h | h
    ·exact h
    ·exfalso
     have h1 : 1 ≤ o0.count true:=by
      rw [ho0,List.count_set (by simp; omega)]
      simp
     have h2 : (ze0 w succ succ.length o0).count true ≤ succ.length:=by
      have:=List.count_le_length (a:=true) (l:=ze0 w succ succ.length o0)
      rw [zgy,hl0] at this
      exact this
     omega
   have key : ∀ x,RW succ root w x → 0 ≤ x ∧ (ze0 w succ succ.length o0).getD x.toNat false = true:=fun x hx => by
    induction hx with
    | root _ => exact ⟨h0.1,zsL hr w _ _ _ hroot⟩
    | step _ e hx ih =>
      rename_i p x _
      have rx:=zvJ hr e
      refine ⟨rx.1,?_⟩
      obtain ⟨e1,e2,e3⟩:=e
      have hlt : p.toNat < succ.length:=by omega
      rw [ye,yd hlt] at e3
      exact hcl p.toNat succ[p.toNat] (yd hlt) ih.2 x e3 hx
   intro h
   have:=(key _ h).2
   rwa [ya] at this
omit hr in
theorem zCy (x : Int) : RW succ root w x ↔ ∃ l,Way (Eg succ) root x l ∧ w ∉ l:=by
 constructor
 ·intro h
  induction h with
  | root h => exact ⟨_,.root,by simpa using fun e => h e.symm⟩
  | step _ e hx ih =>
    obtain ⟨l,h1,h2⟩:=ih
    refine ⟨_,.step h1 e,fun hm => ?_⟩
    rcases yv.1 hm with h | h
    ·exact hx h.symm
    ·exact h2 h
 ·rintro ⟨l,h1,h2⟩
  induction h1 with
  | root => exact .root fun e => h2 (by rw [e]; exact yi)
  | step h e ih => exact .step (ih fun hm => h2 (yk _ hm)) e fun e => h2 (by rw [e]; exact yi)
end
section
variable {succ : List (List Int)} (hm : zbk succ = true) {root : Nat} {O : Int → Prop} {pos : Int → Nat} {t : List Int} (Q : TreeOf succ (root : Int) O pos t)
include hm Q
theorem zt7 (j : Nat) : (zdn succ (root : Int) (-1)).getD j false = true ↔ O (j : Int):=by
 obtain ⟨n1,n64,hr⟩:=zeA hm
 rw [zsz hr (root : Int) (-1) ⟨by omega,zmy Q⟩,zCy,Q.rch]
 constructor
 ·rintro ⟨l,h,_⟩; exact ⟨l,h⟩
 ·rintro ⟨l,h⟩
  refine ⟨l,h,fun hmm => ?_⟩
  have:=Q.rng _ ((zvE Q.ord h).2 _ hmm)
  omega
theorem zlo (c b : Nat) : ovB succ (root : Int) c b = true ↔ O (b : Int) ∧ Dom (Eg succ) (root : Int) (c : Int) (b : Int):=by
 obtain ⟨n1,n64,hr⟩:=zeA hm
 unfold ovB
 rw [yC,zt7 hm Q,yB,← yD,zsz hr (root : Int) (c : Int) ⟨by omega,zmy Q⟩,zCy]
 constructor
 ·rintro ⟨h1,h2⟩
  refine ⟨h1,fun l w => ?_⟩
  by_cases hc : (c : Int) ∈ l
  ·exact hc
  ·exact absurd ⟨l,w,hc⟩ h2
 ·rintro ⟨h1,h2⟩
  exact ⟨h1,fun ⟨l,w,hc⟩ => hc (h2 l w)⟩
theorem zre (b a : Nat) : ∀ (d k : Nat),ze3 succ (root : Int) b a k d = true ↔ ∀ c,k ≤ c → c < k + d → c = b ∨ ¬ ovB succ (root : Int) c b = true ∨ ovB succ (root : Int) c a = true
 | 0,k => by simp [ze3]; omega
 | d + 1,k => by
   rw [ze3,yC,zre b a d (k + 1)]
   simp only [Bool.or_eq_true,decide_eq_true_eq,yB,yD]
   constructor
   ·rintro ⟨h1,h2⟩ c hc1 hc2
    by_cases e : c = k
    ·subst e; exact h1
    ·exact h2 c (by omega) (by omega)
   ·intro h
    exact ⟨h k (by omega) (by omega),fun c hc1 hc2 => h c (by omega) (by omega)⟩
omit hm Q in
theorem zoZ (b : Nat) : ∀ (d k : Nat) (v : Int),(∀ c,k ≤ c → c < k + d → ¬ (c ≠ b ∧ ovB succ (root : Int) c b = true ∧ ze3 succ (root : Int) b c 0 succ.length = true)) → zfW succ (root : Int) b k d v = v
 | 0,_,_,_ => rfl
 | d + 1,k,v,h => by
   have h0:=h k (by omega) (by omega)
   rw [zfW,if_neg,zoZ b d (k + 1) v fun c h1 h2 => h c (by omega) (by omega)]
   simpa using h0
omit hm Q in
theorem zvb (b k0 : Nat) : ∀ (d k : Nat) (v : Int),k ≤ k0 → k0 < k + d → (k0 ≠ b ∧ ovB succ (root : Int) k0 b = true ∧ ze3 succ (root : Int) b k0 0 succ.length = true) →
  (∀ c,k ≤ c → c < k + d → c ≠ k0 → ¬ (c ≠ b ∧ ovB succ (root : Int) c b = true ∧ ze3 succ (root : Int) b c 0 succ.length = true)) → zfW succ (root : Int) b k d v = (k0 : Int)
 | 0,k,v,h1,h2,_,_ => by omega
 | d + 1,k,v,h1,h2,hp,hu => by
   rw [zfW]
   by_cases e : k = k0
   ·subst e
    rw [if_pos (by simpa using hp)]
    exact zoZ b d (k + 1) _ fun c h3 h4 => hu c (by omega) (by omega) (by omega)
   ·exact zvb b k0 d (k + 1) _ (by omega) (by omega) hp fun c h3 h4 => hu c (by omega) (by omega)
theorem zy9 : zeZ succ (root : Int) = t.set root (-1):=by
 obtain ⟨n1,n64,hr⟩:=zeA hm
 apply yh
 intro b
 by_cases hb : b < succ.length
 ·have hl:=zkF Q
  have hbt : b < (t.set root (-1)).length:=by omega
  rw [zeZ,List.getElem?_map,List.getElem?_range hb,yd hbt]
  simp only [Option.map_some]
  congr 1
  have e : (t.set root (-1))[b] = tr (t.set root (-1)) (b : Int):=by
   unfold tr
   rw [ya,ye,yd hbt]
   rfl
  rw [e]
  unfold zrQ
  by_cases c : (b : Int) = (root : Int)
  ·rw [if_pos c,zoy Q (by omega),if_pos c]
  ·rw [if_neg c]
   by_cases ho : O (b : Int)
   ·obtain ⟨h1,h2,h3,h4⟩:=ztC Q ho c
    have rp:=Q.rng _ h2
    obtain ⟨p,hp⟩ : ∃ p : Nat,(p : Int) = tf t (b : Int):=⟨(tf t (b : Int)).toNat,by omega⟩
    rw [h1,← hp]
    rw [← hp] at h2 h3 rp
    have hdom : Dom (Eg succ) (root : Int) (p : Int) (b : Int):=(zuz Q.ord Q.inv Q.st ho).1 (.step c (by rw [← hp]; exact .refl _))
    have hA : ∀ d,Dom (Eg succ) (root : Int) d (b : Int) → d ≠ (b : Int) → Dom (Eg succ) (root : Int) d (p : Int):=fun d h5 h6 => by
     have:=Q.inv.A (b : Int) d c (zFN Q ho) h5 h6
     rwa [← hp] at this
    have hpb : p ≠ b:=fun e => by rw [e] at h3; omega
    refine zvb b p succ.length 0 (-2) (yJ _) (by omega) ⟨hpb,(zlo hm Q p b).2 ⟨ho,hdom⟩,?_⟩ fun k _ hk hne => ?_
    ·rw [zre hm Q]
     intro k _ hk
     by_cases e1 : k = b
     ·exact .inl e1
     ·by_cases e2 : ovB succ (root : Int) k b = true
      ·exact .inr (.inr ((zlo hm Q k p).2 ⟨h2,hA _ ((zlo hm Q k b).1 e2).2 (by omega)⟩))
      ·exact .inr (.inl e2)
    ·rintro ⟨k1,k2,k3⟩
     rw [zre hm Q] at k3
     have hk2:=((zlo hm Q k b).1 k2).2
     rcases k3 p (yJ _) (by omega) with e1 | e1 | e1
     ·exact hpb e1
     ·exact e1 ((zlo hm Q p b).2 ⟨ho,hdom⟩)
     ·obtain ⟨ok,hpk⟩:=(zlo hm Q p k).1 e1
      have hkp:=hA _ hk2 (by omega)
      rcases zsc Q.ord ok hpk with e2 | e2
      ·exact hne (by omega)
      ·rcases zsc Q.ord h2 hkp with e3 | e3
       ·exact hne (by omega)
       ·omega
   ·rw [zzc Q ho (by omega)]
    refine zoZ b succ.length 0 (-2) fun k _ _ h => ?_
    exact ho ((zlo hm Q k b).1 h.2.1).1
 ·rw [yc (by simp [zeZ]; omega),yc (by rw [zkF Q]; omega)]
omit hm in
theorem zqf : ∀ (r : Nat) (acc : List Int) (a : Int),O a → pos a < r → ∃ ch,pathFrom (t.set root (-1)) r acc a = acc ++ a :: ch ∧ ∀ x,x ∈ a :: ch ↔ Anc (root : Int) (tf t) x a:=by
 intro r
 induction r with
 | zero => intro acc a _ h; omega
 | succ r ih =>
   intro acc a ha h
   have ra:=Q.rng a ha
   rw [pathFrom,if_neg (by rw [zkF Q]; omega)]
   by_cases c : a = (root : Int)
   ·rw [if_pos (by rw [zoy Q ra.1,if_pos c])]
    refine ⟨[],rfl,fun x => ?_⟩
    rw [List.mem_singleton]
    constructor
    ·rintro rfl; exact .refl _
    ·intro hx
     by_cases e : x = a
     ·exact e
     ·exact absurd c (zno hx e).1
   ·obtain ⟨h1,h2,h3,h4⟩:=ztC Q ha c
    rw [h1,if_neg h4]
    obtain ⟨ch,e1,e2⟩:=ih (acc ++ [a]) (tf t a) h2 (by omega)
    refine ⟨tf t a :: ch,by rw [e1]; simp,fun x => ?_⟩
    rw [yv,e2 x]
    constructor
    ·rintro (rfl | hx)
     ·exact .refl _
     ·exact .step c hx
    ·intro hx
     by_cases e : x = a
     ·exact .inl e
     ·exact .inr (zno hx e).2
omit hm in
theorem zAo {a b : Int} (ha : O a) (hb : O b) : zmu (t.set root (-1)) a b = a ↔ zky (t.set root (-1)) a b = true:=by
 rw [zvU Q]
 unfold zmu
 rw [if_pos (zvX Q)]
 have hpa : pos a < (t.set root (-1)).length:=by rw [zkF Q]; exact Q.low a ha
 have hpb : pos b < (t.set root (-1)).length:=by rw [zkF Q]; exact Q.low b hb
 obtain ⟨ca,e1,e2⟩:=zqf Q _ [] a ha hpa
 obtain ⟨cb,e3,e4⟩:=zqf Q _ [] b hb hpb
 rw [List.nil_append] at e1 e3
 have f1 : zid (t.set root (-1)) a = a :: ca:=e1
 have f2 : zid (t.set root (-1)) b = b :: cb:=e3
 rw [f1,f2,List.find?_cons]
 by_cases c : a ∈ b :: cb
 ·rw [decide_eq_true c]
  simp only [yF,true_iff]
  exact ⟨ha,hb,(e4 a).1 c⟩
 ·rw [decide_eq_false c]
  simp only
  constructor
  ·intro h
   exfalso
   cases hf : ca.find? (fun x => decide (x ∈ b :: cb)) with
   | none =>
     rw [hf] at h
     have:=(Q.rng a ha).1
     simp at h
     omega
   | some x =>
     rw [hf] at h
     have:=List.find?_some hf
     simp only [yF] at h
     subst h
     exact c (by simpa using this)
  ·rintro ⟨_,_,h⟩
   exact absurd ((e4 a).2 h) c
end
end AC
namespace AC
open Go Go.A Go.A.Lex
def rvK (l : List Int) (k : Nat) : List Int:=(List.range l.length).map fun j => if j < k ∨ l.length - k ≤ j then l.getD (l.length - 1 - j) 0 else l.getD j 0
theorem zh1 (l : List Int) (k : Nat) : (rvK l k).length = l.length:=by simp [rvK]
theorem zmW (l : List Int) (k j : Nat) (h : j < l.length) : (rvK l k)[j]? = some (if j < k ∨ l.length - k ≤ j then l.getD (l.length - 1 - j) 0 else l.getD j 0):=by simp [rvK,h]
theorem zBg (l : List Int) : rvK l 0 = l:=by
 apply yh
 intro j
 by_cases h : j < l.length
 ·rw [zmW l 0 j h,if_neg (by omega)]
  simp [h]
 ·rw [yc (by rw [zh1]; omega),yc (by omega)]
theorem zDx (l : List Int) (k : Nat) (h : l.length ≤ 2 * k + 1) : rvK l k = l.reverse:=by
 apply yh
 intro j
 by_cases hj : j < l.length
 ·rw [zmW l k j hj,List.getElem?_reverse hj]
  have h2 : l.length - 1 - j < l.length:=by omega
  by_cases c : j < k ∨ l.length - k ≤ j
  ·rw [if_pos c]
   simp [h2]
  ·rw [if_neg c]
   have : l.length - 1 - j = j:=by omega
   rw [this]
   simp [hj]
 ·rw [yc (by rw [zh1]; omega),yc (by simp; omega)]
theorem zBI (l : List Int) (k : Nat) (h : 2 * k + 1 < l.length) : ((rvK l k).set k (l.getD (l.length - 1 - k) 0)).set (l.length - 1 - k) (l.getD k 0) = rvK l (k + 1):=by
 apply yh
 intro j
 by_cases hj : j < l.length
 ·rw [zmW l (k + 1) j hj,yp,yp,zmW l k j hj]
  simp only [yt,zh1]
  by_cases c1 : l.length - 1 - k = j
  ·rw [if_pos c1,if_pos (by omega),if_pos (by omega)]
   have : l.length - 1 - j = k:=by omega
   rw [this]
  ·rw [if_neg c1]
   by_cases c2 : k = j
   ·rw [if_pos c2,if_pos (by omega),if_pos (by omega),c2]
   ·rw [if_neg c2]
    by_cases c3 : j < k ∨ l.length - k ≤ j
    ·rw [if_pos c3,if_pos (by omega)]
    ·rw [if_neg c3,if_neg (by omega)]
 ·rw [yc (by simp [zh1]; omega),yc (by rw [zh1]; omega)]
theorem zmd {l : List Int} {j : Nat} {x : Int} (h : l[j]? = some x) : (l.map zj)[j]? = some [.f (.lit (.int .i64 x))]:=by simp [h,zj]
theorem zsZ (σ : zd) (id ver : Nat) (l : List Int) (hl : l.length ≤ 4294967296) (hid : id < σ.length) : ∀ (d k : Nat) (a3 : V),l.length - 2 * k ≤ d → 2 * k ≤ l.length →
  exec T zaM ⟨[.one (.own id ver 0 l.length),vI k,vI ((l.length : Int) - 1 - k),a3],σ.set id (.cells ver 1 ((rvK l k).map zj)),σ.length,σ.length⟩ =
   some (.exit 0,⟨[vU,vU,vU,vU],σ.set id (.cells ver 1 (l.reverse.map zj)),σ.length,σ.length⟩):=by
 have hend : ∀ k : Nat,¬ ((k : Int) < (l.length : Int) - 1 - k) → 2 * k ≤ l.length → ∀ (a3 : V),
  exec T zaM ⟨[.one (.own id ver 0 l.length),vI k,vI ((l.length : Int) - 1 - k),a3],σ.set id (.cells ver 1 ((rvK l k).map zj)),σ.length,σ.length⟩ =
   some (.exit 0,⟨[vU,vU,vU,vU],σ.set id (.cells ver 1 (l.reverse.map zj)),σ.length,σ.length⟩):=by
  intro k hc hk a3
  rw [xl zaM rfl,zeb,zDx l k (by omega)]
  simp -implicitDefEqProofs only [go_sem,hc,yt]
 intro d
 induction d with
 | zero =>
   intro k a3 h1 h2
   exact hend k (by omega) h2 _
 | succ d ih =>
   intro k a3 h1 h2
   by_cases hc : (k : Int) < (l.length : Int) - 1 - k
   ·have hk : k < l.length:=by omega
    have hk2 : l.length - 1 - k < l.length:=by omega
    have g1:=zmd (zmW l k k hk)
    have g2:=zmd (zmW l k (l.length - 1 - k) hk2)
    rw [if_neg (by omega)] at g1 g2
    have e1 : ((l.length : Int) - 1 - k).toNat = l.length - 1 - k:=by omega
    have e2 : (0 : Int) ≤ (l.length : Int) - 1 - k:=by omega
    have e3 : ((l.length : Int) - 1 - k < (l.length : Int)) = True:=by simp; omega
    have w1 : Go.IntKind.i64.wrap ((k : Int) + 1) = ((k + 1 : Nat) : Int):=by rw [wrap_i64] <;> omega
    have w2 : Go.IntKind.i64.wrap ((l.length : Int) - 1 - k - 1) = (l.length : Int) - 1 - ((k + 1 : Nat) : Int):=by rw [wrap_i64] <;> omega
    have hs : ((l.map zj).length) = l.length:=by simp
    have st:=congrArg (yL zj) (zBI l k (by omega))
    rw [yA,yA] at st
    have:=ih (k + 1) vU (by omega) (by omega)
    rw [← st] at this
    have hne : ¬ l.length - 1 - k = k:=by omega
    have g2' : ((yL zj (rvK l k)).set k (zj (l.getD (l.length - 1 - k) 0)))[l.length - 1 - k]? = some [.f (.lit (.int .i64 (l.getD (l.length - 1 - k) 0)))]:=by
     rw [List.getElem?_set_ne (by omega)]
     exact g2
    rw [xl zaM rfl,zeb]
    simp -implicitDefEqProofs only [go_sem,zj] at this g2'
    simp -implicitDefEqProofs only [go_sem,hc,e1,e2,e3,ilt hk,yg,ya,List.getElem?_set_self hid,g1,g2,g2',yK,yt,w1,w2,this]
   ·exact hend k hc h2 _
theorem zsw (σ : zd) (id ver : Nat) (l : List Int) (hl : l.length ≤ 4294967296) (hσ : σ[id]? = some (.cells ver 1 (l.map zj))) (n : Nat) (hn : n = l.length) :
  call T 149 [.one (.own id ver 0 n)] σ = some (.tup [],σ.set id (.cells ver 1 (l.reverse.map zj))):=by
 subst hn
 rw [ze (fn:=zeL) rfl]
 have hid : id < σ.length:=(ys.1 hσ).1
 have h:=fun a3 => zsZ σ id ver l hl hid l.length 0 a3 (by omega) (by omega)
 have hs : σ.set id (.cells ver 1 (l.map zj)) = σ:=by
  apply yh
  intro j
  rw [yp]
  by_cases e : id = j
  ·subst e; rw [if_pos rfl,if_pos hid,hσ]
  ·rw [if_neg e]
 rw [zBg,hs] at h
 simp only [Int.natCast_zero,Int.sub_zero] at h
 have w : Go.IntKind.i64.wrap ((l.length : Int) - 1) = (l.length : Int) - 1:=by rw [wrap_i64] <;> omega
 simp -implicitDefEqProofs only [go_sem] at h
 simp -implicitDefEqProofs only [go_sem,zeL,w,h,yt]
end AC
namespace AC
open Go Go.A Go.A.Lex
theorem n64 : ((64 : Nat) : Int) = 64:=rfl
attribute [go_sem] n64
def cB (b : Bool) : C:=.f (.lit (.bool b))
def cN (n : Nat) : C:=.f (.lit (.int .i64 n))
section
variable (succ pred : List (List Int)) (hn : succ.length ≤ 64) (hs : ∀ l ∈ succ,l.length ≤ 4294967296) (hr : ∀ l ∈ succ,∀ y ∈ l,0 ≤ y ∧ y < (succ.length : Int))
abbrev obG : Ob:=.cells 0 2 [[.f (.sl (succ.map rl)),.f (.sl (pred.map rl))]]
abbrev stO (seen : List Bool) (next : List Nat) (vo : Nat) (out : List Int) (vs : Nat) (row : List Int) : zd :=
 [obG succ pred,.cells 0 64 [seen.map cB],.cells 0 64 [next.map cN],.cells vo 1 (out.map zj),.cells vs 1 (row.map zj)]
include hn hs hr
theorem zuG (X : Nat) (hX : X < succ.length) (seen : List Bool) (hseen : seen.length = 64) (vo : Nat) (out : List Int) (vs : Nat) (row : List Int) (m : Nat) (hm : m ≤ row.length) (hm1 : m + 1 ≤ 4294967296) : ∀ (d nx : Nat) (next : List Nat) (a0 a1 a3 a9 a10 a11 a12 a13 : V),next.length = 64 → next[X]? = some nx → succ[X].length - nx = d → nx ≤ succ[X].length →
  exec T zfQ ⟨[a0,a1,.one (.ptr 0 0 0 0),a3,.one (.ptr 1 0 0 0),.one (.ptr 2 0 0 0),.one (.own 3 vo 0 out.length),.one (.own 4 vs 0 m),vI X,a9,a10,a11,a12,a13],stO succ pred seen next vo out vs row,0,0⟩ =
   some (match scan seen (succ[X].drop nx) nx with
    | none => (.exit 0,⟨[vU,vU,.one (.ptr 0 0 0 0),vU,.one (.ptr 1 0 0 0),.one (.ptr 2 0 0 0),.one (.own 3 vo 0 out.length),.one (.own 4 vs 0 m),vI X,vU,vU,vU,vU,vU],stO succ pred seen (next.set X succ[X].length) vo out vs row,0,0⟩)
    | some (y,j) => (.goto 0,⟨[vU,vU,.one (.ptr 0 0 0 0),vU,.one (.ptr 1 0 0 0),.one (.ptr 2 0 0 0),.one (.own 3 vo 0 out.length),.one (.own 4 (vs + 1) 0 (m + 1)),vU,vU,vU,vU,vU,vU],stO succ pred (seen.set y.toNat true) (next.set X j) vo out (vs + 1) (row.take m ++ [y]),0,0⟩)):=by
 intro d
 have hX64 : X < 64:=by omega
 have hXi : ((X : Int) < 64) = True:=by simp; omega
 have hsX:=hs _ (yq hX)
 induction d with
 | zero =>
   intro nx next a0 a1 a3 a9 a10 a11 a12 a13 hnl hnx h1 h2
   have hk : nx = succ[X].length:=by omega
   subst hk
   have hg : (next.map cN)[X]? = some (cN succ[X].length):=by simp [hnx]
   have hset : next.set X succ[X].length = next:=by
    apply yh
    intro j
    rw [yp]
    by_cases e : X = j
    ·subst e; rw [if_pos rfl,if_pos (by omega),hnx]
    ·rw [if_neg e]
   rw [xl zfQ rfl,zhM,hset]
   simp -implicitDefEqProofs only [go_sem,stO,obG,zp hX,rl,hXi,yg,ya,yE,hg,cN,Int.lt_irrefl,List.drop_length,scan]
 | succ d ih =>
   intro nx next a0 a1 a3 a9 a10 a11 a12 a13 hnl hnx h1 h2
   have hk : nx < succ[X].length:=by omega
   have hd : succ[X].drop nx = succ[X][nx] :: succ[X].drop (nx + 1):=List.drop_eq_getElem_cons hk
   obtain ⟨y0,y1⟩:=hr _ (yq hX) _ (yq hk)
   have hgy : (succ[X].map ri)[nx]? = some (ri succ[X][nx]):=zp hk
   generalize succ[X][nx] = y at *
   obtain ⟨Y,rfl⟩ : ∃ Y : Nat,y = Y:=⟨y.toNat,by omega⟩
   have hY64 : Y < 64:=by omega
   have hYi : ((Y : Int) < 64) = True:=by simp; omega
   have hg : (next.map cN)[X]? = some (cN nx):=by simp [hnx]
   have hov:=zuM (e:=next.map cN) (k:=X) (.f (.lit (.int .i64 ((nx + 1 : Nat) : Int)))) (by simp; omega)
   have hcs : C.f (.lit (.int .i64 ((nx + 1 : Nat) : Int))) = cN (nx + 1):=rfl
   have hov2 : (next.map cN).set X (C.f (.lit (.int .i64 ((nx + 1 : Nat) : Int)))) = (next.set X (nx + 1)).map cN:=by rw [hcs,yA]
   rw [hov2] at hov
   have hle:=zxT (show X < next.length by omega)
   have hsy : (seen.map cB)[Y]? = some (cB (seen.getD Y false)):=by
    have : Y < seen.length:=by omega
    simp [this]
   have hovs:=zuM (e:=seen.map cB) (k:=Y) (.f (.lit (.bool true))) (by simp; omega)
   have hovs2 : (seen.map cB).set Y (C.f (.lit (.bool true))) = (seen.set Y true).map cB:=by rw [yA]; rfl
   rw [hovs2] at hovs
   have hles:=zxT (show Y < seen.length by omega)
   have hw : Go.IntKind.i64.wrap ((nx : Int) + 1) = ((nx + 1 : Nat) : Int):=za hk hsX
   have hg2 : ((next.set X (nx + 1)).map cN)[X]? = some (cN (nx + 1)):=by simp [hnl,hX64]
   have hlim : 0 < m + 1 ∧ m + 1 ≤ LIM:=⟨by omega,by unfold LIM; omega⟩
   rw [xl zfQ rfl,zhM,hd,scan]
   rw [ya]
   cases e : seen.getD Y false
   ·rw [e] at hsy
    have er : (row.map zj).take m ++ [[C.f (.lit (.int .i64 (Y : Int)))]] = (row.take m ++ [(Y : Int)]).map zj:=by simp [zj,List.map_take]
    simp -implicitDefEqProofs only [go_sem,stO,obG,zp hX,rl,hXi,yg,ya,yE,hg,cN,ilt hk,hgy,ri,hYi,hw,hov,hle,hg2,hsy,cB,hovs,hles,hlim,er]
   ·rw [e] at hsy
    have:=ih (nx + 1) (next.set X (nx + 1)) vU vU vU vU vU vU vU vU (by simpa using hnl) (by simp [hnl,hX64]) (by omega) (by omega)
    simp -implicitDefEqProofs only [go_sem,stO,obG,yK] at this
    simp -implicitDefEqProofs only [go_sem,stO,obG,zp hX,rl,hXi,yg,ya,yE,hg,cN,ilt hk,hgy,ri,hYi,hw,hov,hle,hg2,hsy,cB,this]
end
end AC
namespace AC
open Go Go.A Go.A.Lex
attribute [go_sem] Option.any_some
def zjI : Go.A.Code:=zr.p2.p2.p2.p2.p2.p2.p2
theorem zqj : zhF = .seq .skip zjI:=rfl
section
variable (succ pred : List (List Int)) (hn : succ.length ≤ 64) (hs : ∀ l ∈ succ,l.length ≤ 4294967296) (hr : ∀ l ∈ succ,∀ y ∈ l,0 ≤ y ∧ y < (succ.length : Int))
include hn hs hr
theorem zvQ {d : DF} (hd : DInv succ d) {x : Int} (hx : 0 ≤ x ∧ x < (succ.length : Int)) {j : Nat} (hj : j ≤ (succ.getD x.toNat []).length) : ∀ X,X < succ.length → (d.next.set x.toNat j).getD X 0 ≤ (succ.getD X []).length:=by
 intro X hX
 have h64:=hd.next
 by_cases e : x.toNat = X
 ·subst e
  rw [zbh _ _ (by omega)]
  exact hj
 ·rw [getD_set_ne _ _ e]
  exact hd.le X hX
theorem zwR (d : DF) (stale : List Int) (vo vs : Nat) (X : Nat) (s : List Int) (y : Int) (j : Nat) (a0 a1 a3 a8 a9 a10 a11 a12 a13 : V) (hd : DInv succ d) (hX : X < succ.length) (hb1 : s.length + 2 ≤ 4294967296) (hb2 : d.out.length + 1 ≤ 4294967296) (hscan : zf0 succ d X = some (y,j)) :
  exec T zjI ⟨[a0,a1,.one (.ptr 0 0 0 0),a3,.one (.ptr 1 0 0 0),.one (.ptr 2 0 0 0),.one (.own 3 vo 0 d.out.length),.one (.own 4 vs 0 (s.length + 1)),a8,a9,a10,a11,a12,a13],stO succ pred d.seen d.next vo d.out vs (((X : Int) :: s).reverse ++ stale),0,0⟩ =
   some (.goto 0,⟨[vU,vU,.one (.ptr 0 0 0 0),vU,.one (.ptr 1 0 0 0),.one (.ptr 2 0 0 0),.one (.own 3 vo 0 d.out.length),.one (.own 4 (vs + 1) 0 (s.length + 2)),vU,vU,vU,vU,vU,vU],stO succ pred (d.seen.set y.toNat true) (d.next.set X j) vo d.out (vs + 1) ((y :: (X : Int) :: s).reverse ++ []),0,0⟩):=by
 have hnl:=hd.next
 have hgX : succ.getD X [] = succ[X]:=by simp [hX]
 have hnx : d.next[X]? = some (d.next.getD X 0):=by
  have : X < d.next.length:=by omega
  simp [this]
 have hle:=hd.le X hX
 rw [hgX] at hle
 have hl0:=fun a0 a1 a3 a9 a10 a11 a12 a13 => zuG succ pred hn hs hr X hX d.seen hd.seen vo d.out vs (((X : Int) :: s).reverse ++ stale) (s.length + 1) (by simp only [yl,yr,yb,yf]; omega) (by first | omega | (simp only [yb,yf] at hb1 ⊢; omega)) _ (d.next.getD X 0) d.next a0 a1 a3 a9 a10 a11 a12 a13 hnl hnx rfl hle
 have hsc : zf0 succ d (X : Int) = scan d.seen (succ[X].drop (d.next.getD X 0)) (d.next.getD X 0):=by
  unfold zf0
  rw [ya,hgX]
 rw [hsc] at hscan
 have hw : Go.IntKind.i64.wrap (((s.length + 1 : Nat) : Int) - 1) = (s.length : Int):=by rw [wrap_i64] <;> first | omega | (simp only [yb,yf] at hb1 ⊢; omega)
 have hi1 : ((s.length : Int) < ((s.length + 1 : Nat) : Int)) = True:=by first | (simp; done) | (simp; omega)
 have hgrow : ((((X : Int) :: s).reverse ++ stale).map zj)[s.length]? = some [.f (.lit (.int .i64 (X : Int)))]:=by
  apply zmd
  simp
 have hrt : (((X : Int) :: s).reverse ++ stale).take (s.length + 1) = ((X : Int) :: s).reverse:=yx (by simp)
 have hlim : 0 < d.out.length + 1 ∧ d.out.length + 1 ≤ LIM:=⟨by omega,by unfold LIM; omega⟩
 have eo : (d.out.map zj).take d.out.length ++ [[C.f (.lit (.int .i64 (X : Int)))]] = (d.out ++ [(X : Int)]).map zj:=by
  rw [yo (by simp),yy]
  rfl
 generalize hrow : ((X : Int) :: s).reverse ++ stale = row at *
 rw [hscan] at hl0
 have e : (y :: (X : Int) :: s).reverse ++ [] = row.take (s.length + 1) ++ [y]:=by rw [hrt]; simp
 have hp1 : 0 < s.length + 2 ∧ s.length + 2 ≤ LIM:=⟨by omega,by unfold LIM; omega⟩
 rw [e]
 simp -implicitDefEqProofs only [go_sem,stO,obG] at hl0
 simp -implicitDefEqProofs only [go_sem,zjI,zr,Code.p2,stO,obG,hw,hi1,yg,ya,hgrow,hl0]
theorem zyt (d : DF) (stale : List Int) (vo vs : Nat) (X : Nat)  (a0 a1 a3 a8 a9 a10 a11 a12 a13 : V) (hd : DInv succ d) (hX : X < succ.length) (hb1 : ([] : List Int).length + 2 ≤ 4294967296) (hb2 : d.out.length + 1 ≤ 4294967296) (hscan : zf0 succ d X = none) :
  exec T zjI ⟨[a0,a1,.one (.ptr 0 0 0 0),a3,.one (.ptr 1 0 0 0),.one (.ptr 2 0 0 0),.one (.own 3 vo 0 d.out.length),.one (.own 4 vs 0 (([] : List Int).length + 1)),a8,a9,a10,a11,a12,a13],stO succ pred d.seen d.next vo d.out vs (((X : Int) :: ([] : List Int)).reverse ++ stale),0,0⟩ =
   some (.ret,⟨[vU,vU,vU,.one (.own 3 (vo + 1) 0 (d.out.length + 1)),vU,vU,vU,vU,vU,vU,vU,vU,vU,vU],stO succ pred d.seen (d.next.set X succ[X].length) (vo + 1) (d.out ++ [(X : Int)]).reverse vs (((X : Int) :: []).reverse ++ stale),0,0⟩):=by
 have hnl:=hd.next
 have hgX : succ.getD X [] = succ[X]:=by simp [hX]
 have hnx : d.next[X]? = some (d.next.getD X 0):=by
  have : X < d.next.length:=by omega
  simp [this]
 have hle:=hd.le X hX
 rw [hgX] at hle
 have hl0:=fun a0 a1 a3 a9 a10 a11 a12 a13 => zuG succ pred hn hs hr X hX d.seen hd.seen vo d.out vs (((X : Int) :: ([] : List Int)).reverse ++ stale) (([] : List Int).length + 1) (by simp only [yl,yr,yb,yf]; omega) (by first | omega | (simp only [yb,yf] at hb1 ⊢; omega)) _ (d.next.getD X 0) d.next a0 a1 a3 a9 a10 a11 a12 a13 hnl hnx rfl hle
 have hsc : zf0 succ d (X : Int) = scan d.seen (succ[X].drop (d.next.getD X 0)) (d.next.getD X 0):=by
  unfold zf0
  rw [ya,hgX]
 rw [hsc] at hscan
 have hw : Go.IntKind.i64.wrap (((([] : List Int).length + 1 : Nat) : Int) - 1) = (([] : List Int).length : Int):=by rw [wrap_i64] <;> first | omega | (simp only [yb,yf] at hb1 ⊢; omega)
 have hi1 : ((([] : List Int).length : Int) < ((([] : List Int).length + 1 : Nat) : Int)) = True:=by first | (simp; done) | (simp; omega)
 have hgrow : ((((X : Int) :: ([] : List Int)).reverse ++ stale).map zj)[([] : List Int).length]? = some [.f (.lit (.int .i64 (X : Int)))]:=by
  apply zmd
  simp
 have hrt : (((X : Int) :: ([] : List Int)).reverse ++ stale).take (([] : List Int).length + 1) = ((X : Int) :: ([] : List Int)).reverse:=yx (by simp)
 have hlim : 0 < d.out.length + 1 ∧ d.out.length + 1 ≤ LIM:=⟨by omega,by unfold LIM; omega⟩
 have eo : (d.out.map zj).take d.out.length ++ [[C.f (.lit (.int .i64 (X : Int)))]] = (d.out ++ [(X : Int)]).map zj:=by
  rw [yo (by simp),yy]
  rfl
 generalize hrow : ((X : Int) :: ([] : List Int)).reverse ++ stale = row at *
 rw [hscan] at hl0
 have hrv:=zsw (stO succ pred d.seen (d.next.set X succ[X].length) (vo + 1) (d.out ++ [(X : Int)]) vs row) 3 (vo + 1) (d.out ++ [(X : Int)]) (by simp; omega) rfl (d.out.length + 1) (by simp)
 simp -implicitDefEqProofs only [go_sem,stO,obG] at hl0 hrv hw hi1 hgrow
 simp -implicitDefEqProofs only [go_sem,zjI,zr,Code.p2,stO,obG,hw,hi1,yg,ya,hgrow,hl0,hlim,eo,hrv]
theorem zxR (d : DF) (stale : List Int) (vo vs : Nat) (X : Nat) (z : Int) (s' : List Int) (a0 a1 a3 a8 a9 a10 a11 a12 a13 : V) (hd : DInv succ d) (hX : X < succ.length) (hb1 : (z :: s').length + 2 ≤ 4294967296) (hb2 : d.out.length + 1 ≤ 4294967296) (hscan : zf0 succ d X = none) :
  exec T zjI ⟨[a0,a1,.one (.ptr 0 0 0 0),a3,.one (.ptr 1 0 0 0),.one (.ptr 2 0 0 0),.one (.own 3 vo 0 d.out.length),.one (.own 4 vs 0 ((z :: s').length + 1)),a8,a9,a10,a11,a12,a13],stO succ pred d.seen d.next vo d.out vs (((X : Int) :: (z :: s')).reverse ++ stale),0,0⟩ =
   some (.goto 0,⟨[vU,vU,.one (.ptr 0 0 0 0),vU,.one (.ptr 1 0 0 0),.one (.ptr 2 0 0 0),.one (.own 3 (vo + 1) 0 (d.out.length + 1)),.one (.own 4 vs 0 (s'.length + 1)),vU,vU,vU,vU,vU,vU],stO succ pred d.seen (d.next.set X succ[X].length) (vo + 1) (d.out ++ [(X : Int)]) vs ((z :: s').reverse ++ ((X : Int) :: stale)),0,0⟩):=by
 have hnl:=hd.next
 have hgX : succ.getD X [] = succ[X]:=by simp [hX]
 have hnx : d.next[X]? = some (d.next.getD X 0):=by
  have : X < d.next.length:=by omega
  simp [this]
 have hle:=hd.le X hX
 rw [hgX] at hle
 have hl0:=fun a0 a1 a3 a9 a10 a11 a12 a13 => zuG succ pred hn hs hr X hX d.seen hd.seen vo d.out vs (((X : Int) :: z :: s').reverse ++ stale) ((z :: s').length + 1) (by simp only [yl,yr,yb,yf]; omega) (by first | omega | (simp only [yb,yf] at hb1 ⊢; omega)) _ (d.next.getD X 0) d.next a0 a1 a3 a9 a10 a11 a12 a13 hnl hnx rfl hle
 have hsc : zf0 succ d (X : Int) = scan d.seen (succ[X].drop (d.next.getD X 0)) (d.next.getD X 0):=by
  unfold zf0
  rw [ya,hgX]
 rw [hsc] at hscan
 have hw : Go.IntKind.i64.wrap ((((z :: s').length + 1 : Nat) : Int) - 1) = ((z :: s').length : Int):=by rw [wrap_i64] <;> first | omega | (simp only [yb,yf] at hb1 ⊢; omega)
 have hi1 : (((z :: s').length : Int) < (((z :: s').length + 1 : Nat) : Int)) = True:=by first | (simp; done) | (simp; omega)
 have hgrow : ((((X : Int) :: z :: s').reverse ++ stale).map zj)[(z :: s').length]? = some [.f (.lit (.int .i64 (X : Int)))]:=by
  apply zmd
  simp
 have hrt : (((X : Int) :: z :: s').reverse ++ stale).take ((z :: s').length + 1) = ((X : Int) :: z :: s').reverse:=yx (by simp)
 have hlim : 0 < d.out.length + 1 ∧ d.out.length + 1 ≤ LIM:=⟨by omega,by unfold LIM; omega⟩
 have eo : (d.out.map zj).take d.out.length ++ [[C.f (.lit (.int .i64 (X : Int)))]] = (d.out ++ [(X : Int)]).map zj:=by
  rw [yo (by simp),yy]
  rfl
 generalize hrow : ((X : Int) :: z :: s').reverse ++ stale = row at *
 rw [hscan] at hl0
 have e : (z :: s').reverse ++ ((X : Int) :: stale) = row:=by rw [← hrow]; simp
 have hle2 : (s'.length ≤ s'.length + 1) = True:=by simp
 have hp : ((0 : Int) < ((s'.length + 1 : Nat) : Int)) = True:=by first | (simp; done) | (simp; omega)
 rw [e]
 simp -implicitDefEqProofs only [go_sem,stO,obG] at hl0 hw hi1 hgrow
 simp -implicitDefEqProofs only [go_sem,zjI,zr,Code.p2,stO,obG,hw,hi1,yg,ya,hgrow,hl0,hlim,eo,hp,hle2,Nat.sub_zero]
theorem zDw : ∀ (k : Nat) (d : DF) (stale : List Int) (vo vs : Nat) (o : List Int) (a0 a1 a3 a8 a9 a10 a11 a12 a13 : V),DInv succ d → d.stk.length + k ≤ 4294967296 → d.out.length + k ≤ 4294967296 → dfs succ k d = some o →
  ∃ seen' next' vo' vs' row',exec T (.sc zr zhF) ⟨[a0,a1,.one (.ptr 0 0 0 0),a3,.one (.ptr 1 0 0 0),.one (.ptr 2 0 0 0),.one (.own 3 vo 0 d.out.length),.one (.own 4 vs 0 d.stk.length),a8,a9,a10,a11,a12,a13],stO succ pred d.seen d.next vo d.out vs (d.stk.reverse ++ stale),0,0⟩ =
    some (.ret,⟨[vU,vU,vU,.one (.own 3 vo' 0 o.length),vU,vU,vU,vU,vU,vU,vU,vU,vU,vU],stO succ pred seen' next' vo' o.reverse vs' row',0,0⟩):=by
 intro k
 induction k with
 | zero => intro d stale vo vs o _ _ _ _ _ _ _ _ _ _ _ _ h; simp [dfs] at h
 | succ k ih =>
   intro d stale vo vs o a0 a1 a3 a8 a9 a10 a11 a12 a13 hd hb1 hb2 h
   simp only [dfs] at h
   cases hstk : d.stk with
   | nil => rw [hstk] at h; cases h
   | cons x s =>
     rw [hstk] at h hb1
     simp only at h
     simp only [yb] at hb1
     obtain ⟨x0,x1⟩:=hd.stk x (by rw [hstk]; simp)
     obtain ⟨X,rfl⟩ : ∃ X : Nat,x = X:=⟨x.toNat,by omega⟩
     have hX : X < succ.length:=by omega
     have hgX : succ.getD X [] = succ[X]:=by simp [hX]
     have hlX : zw6 succ (X : Int) = succ[X].length:=by unfold zw6; rw [ya,hgX]
     cases hscan : zf0 succ d (X : Int) with
     | some yj =>
       obtain ⟨y,j⟩:=yj
       rw [hscan] at h
       simp only [ya] at h
       have hsc:=hscan
       unfold zf0 at hsc
       rw [ya,hgX] at hsc
       obtain ⟨q1,q2,q3⟩:=zxJ hsc
       have hle:=hd.le X hX
       rw [hgX] at hle
       have hy:=hr _ (yq hX) y (List.mem_of_mem_drop q3)
       have hd' : DInv succ ⟨d.seen.set y.toNat true,d.next.set X j,d.out,y :: (X : Int) :: s⟩:=⟨by simpa using hd.seen,by simpa using hd.next,by
         have:=zvQ succ hn hs hr hd ⟨x0,x1⟩ (j:=j) (by rw [ya,hgX]; rw [List.length_drop] at q2; omega)
         rwa [ya] at this,fun z hz => by
        rcases yv.1 hz with rfl | hz
        ·exact hy
        ·exact hd.stk z (by rw [hstk]; exact hz)⟩
       obtain ⟨seen',next',vo',vs',row',hx⟩:=ih _ [] vo (vs + 1) o vU vU vU vU vU vU vU vU vU hd' (by simp only [yb]; omega) (by simp only; omega) h
       refine ⟨seen',next',vo',vs',row',?_⟩
       rw [← hx,zgP,zqj,zgt,zg9]
       simp only [yn,zso]
       have hrd:=zwR succ pred hn hs hr d stale vo vs X s y j a0 a1 a3 a8 a9 a10 a11 a12 a13 hd hX (by omega) (by omega) hscan
       simp only [yb] at hrd ⊢
       rw [hrd]
       simp only [yn,scK,zh2]
       rw [← zqj]
     | none =>
       rw [hscan] at h
       simp only at h
       cases s with
       | nil =>
         simp only [Option.some.injEq] at h
         subst h
         have hrd:=zyt succ pred hn hs hr d stale vo vs X a0 a1 a3 a8 a9 a10 a11 a12 a13 hd hX (by simp) (by omega) hscan
         refine ⟨d.seen,d.next.set X succ[X].length,vo + 1,vs,(((X : Int) :: []).reverse ++ stale),?_⟩
         rw [zgP,zqj,zgt,zg9]
         simp only [yn,zso]
         simp only [yb,yf] at hrd ⊢
         rw [hrd]
         simp only [yn,scK]
         rw [show (d.out ++ [(X : Int)]).length = d.out.length + 1 by simp]
       | cons z s' =>
         simp only [ya] at h
         have hrd:=zxR succ pred hn hs hr d stale vo vs X z s' a0 a1 a3 a8 a9 a10 a11 a12 a13 hd hX (by simp only [yb] at hb1 ⊢; omega) (by omega) hscan
         have hd' : DInv succ ⟨d.seen,d.next.set X (zw6 succ X),d.out ++ [(X : Int)],z :: s'⟩:=⟨hd.seen,by simpa using hd.next,by
          have:=zvQ succ hn hs hr hd ⟨x0,x1⟩ (j:=zw6 succ X) (by rw [ya,hgX,hlX]; exact yI _)
          rwa [ya] at this,fun w hw => hd.stk w (by rw [hstk]; exact yk _ hw)⟩
         obtain ⟨seen',next',vo',vs',row',hx⟩:=ih _ ((X : Int) :: stale) (vo + 1) vs o vU vU vU vU vU vU vU vU vU hd' (by simp only [yb] at hb1 ⊢; omega) (by simp only [yl,yb,yf]; omega) h
         refine ⟨seen',next',vo',vs',row',?_⟩
         rw [← hx,zgP,zqj,zgt,zg9]
         simp only [yn,zso]
         simp only [yb,yl,yf,hlX] at hrd ⊢
         rw [hrd]
         simp only [yn,scK,zh2]
         rw [← zqj]
end
end AC

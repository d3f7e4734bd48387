/- A part of the proof of SchedDepth. Conditions: none. -/
import Derived.Test.YtmkncmffaaninaaGreatPAH
set_option linter.unusedVariables false
set_option linter.unusedSimpArgs false
set_option linter.unusedSectionVars false
open List renaming mem_cons_self → ya,mem_cons_of_mem → yb,getElem?_eq_none → yc,length_map → yd,getD_eq_getElem?_getD → ye,mem_cons → yg,getElem?_eq_getElem → yh,mem_singleton → yk,drop_eq_getElem_cons → yl,ext_getElem? → ym,pairwise_cons → yo,getElem?_replicate → yp,replicate → yq,getElem?_set_self → yt,mem_append → yu,getElem_mem → yv,length_cons → yw,drop_length → yx,getElem?_eq_some_iff → yy,length_append → yz,getElem?_set_ne → yA,drop_zero → yB,append_inj_right' → yC,mem_reverse → yE,getElem?_cons_zero → yF,nodup_cons → yG,length_set → yH,mem_iff_getElem? → yI,append_assoc → yJ,singleton_append → yK,range → yL,mem_of_getElem? → yM,length_nil → yN,any_eq_false → yP,take_of_length_le → yQ,not_mem_nil → yR,map_cons → yU,sum_cons → yV,eq_nil_or_concat → yW,append_inj_left' → yX,length → y0,length_reverse → y1,getElem?_drop → y3,nodup_append → y4,all_cons → y6,cons_append → y7,foldl_cons → y9,append_nil → yaa,nil_append → yab,map_append → yad,mem_range → yae,all_nil → yak,map_set → yal,map → yam
open Int renaming toNat_natCast → yf,natCast_nonneg → yi,natCast_zero → yn,lt_irrefl → yr
open Bool renaming false_eq_true → ys,or_eq_false_iff → yZ,not_eq_true' → y5,not_not → y8,or_eq_true → yac,false_or → yai,true_and → yaj
open Nat renaming le_refl → yD,add_zero → yO,zero_add → yY,add_sub_cancel → y2,add_assoc → yaf,le_trans → yag,add_comm → yah
open Option renaming isNone_none → yS,isNone_some → yT
namespace Dm
section
variable (E : Int → Int → Prop) (root : Int)
inductive Way : Int → List Int → Prop
 | root : Way root [root]
 | step {p x : Int} {l : List Int} : Way p l → E p x → Way x (x :: l)
def Dom (d x : Int) : Prop:=∀ l,Way E root x l → d ∈ l
structure Ord (O : Int → Prop) (pos : Int → Nat) : Prop where
 rt : O root
 inj : ∀ a b,O a → O b → pos a = pos b → a = b
 low : ∀ a,O a → pos root ≤ pos a
 par : ∀ x,O x → x ≠ root → ∃ p,O p ∧ E p x ∧ pos p < pos x
 cl : ∀ p x,O p → E p x → O x
inductive Inc (pos : Int → Nat) : Int → Int → Prop
 | refl (a : Int) : Inc pos a a
 | step {a p x : Int} : Inc pos a p → E p x → pos p < pos x → Inc pos a x
inductive Anc (T : Int → Int) : Int → Int → Prop
 | refl (x : Int) : Anc T x x
 | step {y x : Int} : x ≠ root → Anc T y (T x) → Anc T y x
def Com (T : Int → Int) (x y : Int) : Prop:=∀ p,E p x → T p ≠ -2 → Anc root T y p
def St (T : Int → Int) (x : Int) : Prop:=T x ≠ -2 ∧ ∀ y,Anc root T y (T x) ↔ Com E root T x y
structure Inv (O : Int → Prop) (pos : Int → Nat) (T : Int → Int) : Prop where
 out : ∀ x,¬ O x → T x = -2
 rt : T root = root
 nn : ∀ x,O x → x ≠ -2
 par : ∀ x,x ≠ root → T x ≠ -2 → T (T x) ≠ -2 ∧ pos (T x) < pos x
 A : ∀ x d,x ≠ root → T x ≠ -2 → Dom E root d x → d ≠ x → Dom E root d (T x)
 P : ∀ x,x ≠ root → T x ≠ -2 → Inc E pos (T x) x
 B : ∀ x,x ≠ root → T x ≠ -2 → ∀ y,Com E root T x y → pos y ≤ pos (T x)
end
variable {E : Int → Int → Prop} {root : Int} {O : Int → Prop} {pos : Int → Nat}
section
variable (H : Ord E root O pos)
include H
theorem zva {x : Int} {l : List Int} (h : Way E root x l) : O x ∧ ∀ y ∈ l,O y:=by
 induction h with
 | root => exact ⟨H.rt,fun y hy => by rw [yk.1 hy]; exact H.rt⟩
 | step h e ih =>
   have:=H.cl _ _ ih.1 e
   refine ⟨this,fun y hy => ?_⟩
   rcases yg.1 hy with rfl | hy
   ·exact this
   ·exact ih.2 y hy
theorem zCo : ∀ (n : Nat) (x : Int),pos x ≤ n → O x → ∃ l,Way E root x l ∧ ∀ y ∈ l,y = x ∨ pos y < pos x:=by
 intro n
 induction n with
 | zero =>
   intro x hx ho
   by_cases c : x = root
   ·subst c
    exact ⟨_,.root,fun y hy => .inl (yk.1 hy)⟩
   ·obtain ⟨p,_,_,h⟩:=H.par x ho c
    omega
 | succ n ih =>
   intro x hx ho
   by_cases c : x = root
   ·subst c
    exact ⟨_,.root,fun y hy => .inl (yk.1 hy)⟩
   ·obtain ⟨p,hp,e,h⟩:=H.par x ho c
    obtain ⟨l,w,hl⟩:=ih p (by omega) hp
    refine ⟨_,.step w e,fun y hy => ?_⟩
    rcases yg.1 hy with rfl | hy
    ·exact .inl rfl
    ·rcases hl y hy with rfl | h2
     ·exact .inr h
     ·exact .inr (by omega)
theorem zrw {d x : Int} (hx : O x) (h : Dom E root d x) : d = x ∨ pos d < pos x:=by
 obtain ⟨l,w,hl⟩:=zCo H _ x (yD _) hx
 exact hl d (h l w)
theorem zFj {d x : Int} (hx : O x) (h : Dom E root d x) : O d:=by
 obtain ⟨l,w,hl⟩:=zCo H _ x (yD _) hx
 exact (zva H w).2 d (h l w)
end
theorem zvl {d p x : Int} (e : E p x) (h : Dom E root d x) (hd : d ≠ x) : Dom E root d p:=by
 intro l w
 rcases yg.1 (h _ (.step w e)) with h | h
 ·exact absurd h hd
 ·exact h
theorem zBz (x : Int) : Dom E root x x:=by
 intro l w
 cases w with
 | root => simp
 | step => simp
theorem zDl {a b : Int} (h : Inc E pos a b) : a = b ∨ pos a < pos b:=by
 induction h with
 | refl => exact .inl rfl
 | step h e l ih => rcases ih with rfl | ih <;> right <;> omega
theorem zyv {a b c : Int} (h : Inc E pos a b) (k : Inc E pos b c) : Inc E pos a c:=by
 induction k with
 | refl => exact h
 | step k e l ih => exact .step ih e l
theorem zyd {T : Int → Int} {a b c : Int} (h : Anc root T a b) (k : Anc root T b c) : Anc root T a c:=by
 induction k with
 | refl => exact h
 | step n k ih => exact .step n ih
theorem znu {T : Int → Int} {y x : Int} (h : Anc root T y x) (hn : y ≠ x) : x ≠ root ∧ Anc root T y (T x):=by
 cases h with
 | refl => exact absurd rfl hn
 | step n h => exact ⟨n,h⟩
section
variable (H : Ord E root O pos) {T : Int → Int} (I : Inv E root O pos T)
include H I
theorem zi7 {x : Int} (h : T x ≠ -2) : O x:=by
 by_cases c : O x
 ·exact c
 ·exact absurd (I.out x c) h
theorem zCn : T root ≠ -2:=by rw [I.rt]; exact I.nn _ H.rt
theorem zDF {y x : Int} (h : Anc root T y x) (hx : T x ≠ -2) : T y ≠ -2 ∧ (y = x ∨ pos y < pos x):=by
 induction h with
 | refl => exact ⟨hx,.inl rfl⟩
 | step n h ih =>
   obtain ⟨h1,h2⟩:=I.par _ n hx
   obtain ⟨h3,h4⟩:=ih h1
   refine ⟨h3,.inr ?_⟩
   rcases h4 with h4 | h4
   ·rw [h4]; exact h2
   ·omega
theorem zta {y x : Int} (h : Anc root T y x) (hx : T x ≠ -2) : pos y ≤ pos x:=by
 rcases (zDF H I h hx).2 with rfl | h <;> omega
theorem zAN {d m x : Int} (h : Anc root T m x) (hx : T x ≠ -2) (hd : Dom E root d x) (hm : Anc root T d m) : Dom E root d m:=by
 induction h with
 | refl => exact hd
 | step n h ih =>
   rename_i x0
   obtain ⟨h1,h2⟩:=I.par _ n hx
   refine ih h1 (I.A _ _ n hx hd ?_)
   rintro rfl
   have a1:=zta H I h h1
   have a2:=zta H I hm (zDF H I h h1).1
   omega
theorem zzS : ∀ (n : Nat) (x d : Int),pos x ≤ n → T x ≠ -2 → Dom E root d x → Anc root T d x:=by
 intro n
 induction n with
 | zero =>
   intro x d hn hx hd
   by_cases c : d = x
   ·subst c; exact .refl _
   ·rcases zrw H (zi7 H I hx) hd with h | h
    ·exact absurd h c
    ·omega
 | succ n ih =>
   intro x d hn hx hd
   by_cases c : d = x
   ·subst c; exact .refl _
   ·have hr : x ≠ root:=by
     rintro rfl
     rcases zrw H H.rt hd with h | h
     ·exact c h
     ·have:=H.low d (zFj H H.rt hd)
      omega
    obtain ⟨h1,h2⟩:=I.par _ hr hx
    exact .step hr (ih _ _ (by omega) h1 (I.A _ _ hr hx hd c))
theorem zEq {a b : Int} (h : Inc E pos a b) (ha : O a) : O b:=by
 induction h with
 | refl => exact ha
 | step h e l ih => exact H.cl _ _ ih e
theorem zCV {y x : Int} (h : Anc root T y x) (hx : T x ≠ -2) : Inc E pos y x:=by
 induction h with
 | refl => exact .refl _
 | step n h ih => exact zyv (ih (I.par _ n hx).1) (I.P _ n hx)
section
variable {z : Int} (hst : ∀ y,O y → y ≠ root → pos y < pos z → St E root T y)
include hst
theorem zrp {y : Int} (h : O y) (hp : pos y < pos z) : T y ≠ -2:=by
 by_cases c : y = root
 ·rw [c]; exact zCn H I
 ·exact (hst y h c hp).1
theorem zEE {a v y : Int} (h : Inc E pos a v) (ha : O a) (hv : pos v < pos z) (hy : Anc root T y v) (hp : pos y ≤ pos a) : Anc root T y a:=by
 induction h with
 | refl => exact hy
 | step h e l ih =>
   rename_i p v
   have ho:=zEq H I h ha
   have hle : pos a ≤ pos p:=by rcases zDl h with rfl | h <;> omega
   have hne : y ≠ v:=by rintro rfl; omega
   obtain ⟨hr,h2⟩:=znu hy hne
   have hs:=hst v (H.cl _ _ ho e) hr hv
   exact ih (by omega) ((hs.2 y).1 h2 p e (zrp H I hst ho (by omega)))
theorem key {y : Int} (hr : z ≠ root) (hz : T z ≠ -2) (hy : Com E root T z y) : Anc root T y (T z):=by
 have hP:=I.P z hr hz
 have hB:=I.B z hr hz y hy
 obtain ⟨h1,h2⟩:=I.par z hr hz
 have ho:=zi7 H I h1
 generalize hw : T z = w at hP hB h2 ho
 cases hP with
 | refl => omega
 | step h e l =>
   have hpo:=zEq H I h ho
   exact zEE H I hst h ho l (hy _ e (zrp H I hst hpo l)) hB
end
end
structure Upd (E : Int → Int → Prop) (root : Int) (O : Int → Prop) (pos : Int → Nat) (T T' : Int → Int) (z m : Int) : Prop where
 at' : T' z = m
 ne : ∀ x,x ≠ z → T' x = T x
 oz : O z
 hr : z ≠ root
 st : ∀ y,O y → y ≠ root → pos y < pos z → St E root T y
 hm : T m ≠ -2
 best : ∀ y,Anc root T y m ↔ Com E root T z y
 new : m ≠ T z
section
variable (H : Ord E root O pos) {T T' : Int → Int} (I : Inv E root O pos T) {z m : Int} (U : Upd E root O pos T T' z m)
include H I U
theorem zr5 : ∃ p,E p z ∧ T p ≠ -2 ∧ pos p < pos z ∧ Anc root T m p:=by
 obtain ⟨p,h1,h2,h3⟩:=H.par z U.oz U.hr
 have hp:=zrp H I U.st h1 h3
 exact ⟨p,h2,hp,h3,(U.best m).1 (.refl _) p h2 hp⟩
theorem zC0 : pos m < pos z ∧ m ≠ -2 ∧ m ≠ z:=by
 obtain ⟨p,h1,h2,h3,h4⟩:=zr5 H I U
 have:=zta H I h4 h2
 refine ⟨by omega,I.nn _ (zi7 H I U.hm),?_⟩
 rintro rfl
 omega
theorem zvX {x : Int} (h : T x ≠ -2) : T' x ≠ -2:=by
 by_cases c : x = z
 ·rw [c,U.at']; exact (zC0 H I U).2.1
 ·rw [U.ne x c]; exact h
theorem shrink {y x : Int} (h : Anc root T' y x) (hx : T x ≠ -2) : Anc root T y x:=by
 induction h with
 | refl => exact .refl _
 | step n h ih =>
   rename_i x
   by_cases c : x = z
   ·subst c
    rw [U.at'] at h ih
    have h1:=ih U.hm
    exact .step n (zyd h1 (key H I U.st n hx ((U.best m).1 (.refl _))))
   ·rw [U.ne x c] at h ih
    exact .step n (ih (I.par _ n hx).1)
theorem zzj (hz : T z ≠ -2) : pos m < pos (T z):=by
 have h:=key H I U.st U.hr hz ((U.best m).1 (.refl _))
 have h1:=(I.par z U.hr hz).1
 rcases (zDF H I h h1).2 with h | h
 ·exact absurd h U.new
 ·exact h
theorem zC4 : Inv E root O pos T':=by
 obtain ⟨m1,m2,m3⟩:=zC0 H I U
 have hOz:=U.oz
 have com : ∀ x y,Com E root T' x y → (Com E root T x y):=fun x y h p e hp => shrink H I U (h p e (zvX H I U hp)) hp
 refine ⟨fun x hx => ?_,?_,I.nn,fun x hr hx => ?_,fun x d hr hx hd hn => ?_,fun x hr hx => ?_,fun x hr hx y hy => ?_⟩
 ·rw [U.ne x (by rintro rfl; exact hx hOz)]; exact I.out x hx
 ·rw [U.ne _ (fun h => U.hr h.symm)]; exact I.rt
 ·by_cases c : x = z
  ·subst c
   rw [U.at',U.ne m m3]
   exact ⟨U.hm,m1⟩
  ·rw [U.ne x c] at hx ⊢
   exact ⟨zvX H I U (I.par x hr hx).1,(I.par x hr hx).2⟩
 ·by_cases c : x = z
  ·subst c
   rw [U.at']
   obtain ⟨p,h1,h2,h3,h4⟩:=zr5 H I U
   have hda : Anc root T d m:=(U.best d).2 fun q e hq => zzS H I _ q d (yD _) hq (zvl e hd hn)
   exact zAN H I h4 h2 (zvl h1 hd hn) hda
  ·rw [U.ne x c] at hx ⊢
   exact I.A x d hr hx hd hn
 ·by_cases c : x = z
  ·subst c
   rw [U.at']
   obtain ⟨p,h1,h2,h3,h4⟩:=zr5 H I U
   exact .step (zCV H I h4 h2) h1 h3
  ·rw [U.ne x c] at hx ⊢
   exact I.P x hr hx
 ·by_cases c : x = z
  ·subst c
   rw [U.at']
   exact zta H I ((U.best y).2 (com _ _ hy)) U.hm
  ·rw [U.ne x c] at hx ⊢
   exact I.B x hr hx y (com _ _ hy)
end
section
variable (H : Ord E root O pos) {T : Int → Int} (I : Inv E root O pos T) (hs : ∀ x,O x → x ≠ root → St E root T x)
include H I hs
theorem zCN {x : Int} (h : O x) : T x ≠ -2:=by
 by_cases c : x = root
 ·rw [c]; exact zCn H I
 ·exact (hs x h c).1
theorem zCQ {x : Int} {l : List Int} (w : Way E root x l) : ∀ y,Anc root T y x → y ∈ l:=by
 induction w with
 | root =>
   intro y h
   by_cases c : y = root
   ·simp [c]
   ·exact absurd rfl (znu h c).1
 | step w e ih =>
   rename_i p x l
   intro y h
   by_cases c : y = x
   ·simp [c]
   ·obtain ⟨hr,h2⟩:=znu h c
    have ho:=(zva H w).1
    have:=(hs x (H.cl _ _ ho e) hr).2 y |>.1 h2 p e (zCN H I hs ho)
    exact yb _ (ih y this)
theorem zuY {d x : Int} (hx : O x) : Anc root T d x ↔ Dom E root d x :=
 ⟨fun h l w => zCQ H I hs w d h,fun h => zzS H I _ x d (yD _) (zCN H I hs hx) h⟩
end
end Dm
namespace AC
open Dm
theorem zvn {t : List Int} {x y : Int} (b : Int) (hx : 0 ≤ x ∧ x < t.length) (hy : 0 ≤ y) : tr (t.set x.toNat b) y = if y = x then b else tr t y:=by
 unfold tr
 by_cases c : y = x
 ·subst c
  rw [if_pos rfl,zbh _ _ (by omega)]
 ·rw [if_neg c,getD_set_ne _ _ (by omega)]
def tf (t : List Int) (x : Int) : Int:=if 0 ≤ x then tr t x else -2
theorem zud {t : List Int} {x : Int} (h : 0 ≤ x) : tf t x = tr t x:=by unfold tf; rw [if_pos h]
theorem zvJ {n : Nat} {a : Int} (h : 0 ≤ a ∧ a < (n : Int)) : inR n a = true:=by simp [inR,h.1,h.2]
section
variable {E : Int → Int → Prop} {root : Int} {O : Int → Prop} {pos : Int → Nat} {n : Nat} {at' : List Int}
variable (H : Ord E root O pos) (hO : ∀ a,O a → 0 ≤ a ∧ a < (n : Int)) (hal : at'.length = n) (hat : ∀ a,O a → tr at' a = (pos a : Int))
section
variable {t : List Int} (htl : t.length = n) (I : Inv E root O pos (tf t))
include H hO hal hat htl I
theorem zqQ {b : Int} (hb : tf t b ≠ -2) : ∀ (r : Nat) (a : Int),tf t a ≠ -2 → pos a < r → ∃ c,zpc t at' r a b = some c ∧ tf t c ≠ -2 ∧ pos c ≤ pos b ∧ pos c ≤ pos a ∧ (pos b < pos a → pos c < pos a) ∧ (∀ y,(Anc root (tf t) y a ∧ Anc root (tf t) y b) ↔ (Anc root (tf t) y c ∧ Anc root (tf t) y b)):=by
 intro r
 induction r with
 | zero => intro a _ h; omega
 | succ r ih =>
   intro a ha hr
   have oa:=zi7 H I ha
   have ob:=zi7 H I hb
   have ra:=hO a oa
   have rb:=hO b ob
   have e : (inR t.length a && (inR at'.length a && inR at'.length b)) = true:=by
    rw [htl,hal,zvJ ra,zvJ rb]
    rfl
   rw [zpc,if_pos e,hat a oa,hat b ob]
   by_cases c : pos b < pos a
   ·rw [if_pos (by omega)]
    have hn : a ≠ root:=by
     rintro rfl
     have:=H.low b ob
     omega
    obtain ⟨p1,p2⟩:=I.par a hn ha
    have ea:=zud (t:=t) ra.1
    rw [ea] at p1 p2
    obtain ⟨c',h1,h2,h3,h4,h5,h6⟩:=ih (tr t a) p1 (by omega)
    refine ⟨c',h1,h2,h3,by omega,fun _ => by omega,fun y => ?_⟩
    rw [← h6 y]
    constructor
    ·rintro ⟨k1,k2⟩
     refine ⟨?_,k2⟩
     have hne : y ≠ a:=by
      rintro rfl
      have:=zta H I k2 hb
      omega
     have:=(znu k1 hne).2
     rwa [ea] at this
    ·rintro ⟨k1,k2⟩
     exact ⟨.step hn (by rwa [ea]),k2⟩
   ·rw [if_neg (by omega)]
    exact ⟨a,rfl,ha,by omega,yD _,fun h => absurd h c,fun _ => Iff.rfl⟩
theorem zze {K : Nat} (hK : ∀ a,O a → pos a < K) : ∀ (r : Nat) (a b : Int),tf t a ≠ -2 → tf t b ≠ -2 → pos a + pos b < r → ∃ c,ztx t at' K r a b = some c ∧ tf t c ≠ -2 ∧ ∀ y,Anc root (tf t) y c ↔ Anc root (tf t) y a ∧ Anc root (tf t) y b:=by
 intro r
 induction r with
 | zero => intro a b _ _ h; omega
 | succ r ih =>
   intro a b ha hb hr
   rw [ztx]
   by_cases c : a = b
   ·subst c
    rw [if_pos rfl]
    exact ⟨a,rfl,ha,fun y => ⟨fun h => ⟨h,h⟩,fun h => h.1⟩⟩
   ·rw [if_neg c]
    have hp : pos a ≠ pos b:=fun h => c (H.inj a b (zi7 H I ha) (zi7 H I hb) h)
    obtain ⟨a',h1,h2,h3,h4,h5,h6⟩:=zqQ H hO hal hat htl I hb K a ha (hK a (zi7 H I ha))
    obtain ⟨b',k1,k2,k3,k4,k5,k6⟩:=zqQ H hO hal hat htl I h2 K b hb (hK b (zi7 H I hb))
    rw [h1]
    simp only [k1]
    obtain ⟨c',q1,q2,q3⟩:=ih a' b' h2 k2 (by omega)
    refine ⟨c',q1,q2,fun y => ?_⟩
    rw [q3 y]
    constructor
    ·rintro ⟨w1,w2⟩
     have w3:=(k6 y).2 ⟨w2,w1⟩
     have w4:=(h6 y).2 ⟨w1,w3.1⟩
     exact w4
    ·rintro ⟨w1,w2⟩
     have w3:=(h6 y).1 ⟨w1,w2⟩
     have w4:=(k6 y).1 ⟨w2,w3.1⟩
     exact ⟨w3.1,w4.1⟩
theorem zlK {K : Nat} (hK : ∀ a,O a → 2 * pos a < K) : ∀ (ps : List Int) (b : Int),(∀ p ∈ ps,0 ≤ p ∧ p < (n : Int)) → (b = -2 ∨ tf t b ≠ -2) → ∃ c,zma t at' K ps b = some c ∧ ((c = -2 ∧ b = -2 ∧ ∀ p ∈ ps,tf t p = -2) ∨ (tf t c ≠ -2 ∧ ∀ y,Anc root (tf t) y c ↔ (∀ p ∈ ps,tf t p ≠ -2 → Anc root (tf t) y p) ∧ (b ≠ -2 → Anc root (tf t) y b)))
 | [],b,_,hb => by
   refine ⟨b,rfl,?_⟩
   rcases hb with rfl | hb
   ·exact .inl ⟨rfl,rfl,by simp⟩
   ·exact .inr ⟨hb,fun y => ⟨fun h => ⟨by simp,fun _ => h⟩,fun h => h.2 (I.nn _ (zi7 H I hb))⟩⟩
 | p :: ps,b,hp,hb => by
   have hr:=hp p ya
   have hps:=fun q hq => hp q (yb _ hq)
   rw [zma,if_pos (by rw [htl]; exact zvJ hr)]
   have ep:=zud (t:=t) hr.1
   by_cases c : tr t p = -2
   ·rw [if_pos c]
    obtain ⟨c',h1,h2⟩:=zlK hK ps b hps hb
    refine ⟨c',h1,?_⟩
    rcases h2 with ⟨k1,k2,k3⟩ | ⟨k1,k2⟩
    ·refine .inl ⟨k1,k2,fun q hq => ?_⟩
     rcases yg.1 hq with rfl | hq
     ·rw [ep]; exact c
     ·exact k3 q hq
    ·refine .inr ⟨k1,fun y => ?_⟩
     rw [k2 y]
     constructor
     ·rintro ⟨w1,w2⟩
      refine ⟨fun q hq hn => ?_,w2⟩
      rcases yg.1 hq with rfl | hq
      ·rw [ep] at hn; exact absurd c hn
      ·exact w1 q hq hn
     ·rintro ⟨w1,w2⟩
      exact ⟨fun q hq hn => w1 q (yb _ hq) hn,w2⟩
   ·rw [if_neg c]
    have hpp : tf t p ≠ -2:=by rw [ep]; exact c
    by_cases d : b = -2
    ·rw [if_pos d]
     obtain ⟨c',h1,h2⟩:=zlK hK ps p hps (.inr hpp)
     refine ⟨c',h1,?_⟩
     rcases h2 with ⟨k1,k2,k3⟩ | ⟨k1,k2⟩
     ·have:=hr.1
      omega
     ·refine .inr ⟨k1,fun y => ?_⟩
      rw [k2 y]
      constructor
      ·rintro ⟨w1,w2⟩
       refine ⟨fun q hq hn => ?_,fun h => absurd d h⟩
       rcases yg.1 hq with rfl | hq
       ·exact w2 (by have:=hr.1; omega)
       ·exact w1 q hq hn
      ·rintro ⟨w1,w2⟩
       exact ⟨fun q hq hn => w1 q (yb _ hq) hn,fun _ => w1 p ya hpp⟩
    ·rw [if_neg d]
     have hbb : tf t b ≠ -2:=hb.resolve_left d
     obtain ⟨m,m1,m2,m3⟩:=zze H hO hal hat htl I (K:=K) (fun a ha => by have:=hK a ha; omega) K b p hbb hpp (by have:=hK b (zi7 H I hbb); have:=hK p (zi7 H I hpp); omega)
     rw [m1]
     obtain ⟨c',h1,h2⟩:=zlK hK ps m hps (.inr m2)
     refine ⟨c',h1,?_⟩
     rcases h2 with ⟨k1,k2,k3⟩ | ⟨k1,k2⟩
     ·rw [k2] at m2
      exact absurd rfl (I.nn _ (zi7 H I m2))
     ·refine .inr ⟨k1,fun y => ?_⟩
      rw [k2 y]
      constructor
      ·rintro ⟨w1,w2⟩
       have w3:=(m3 y).1 (w2 (I.nn _ (zi7 H I m2)))
       refine ⟨fun q hq hn => ?_,fun _ => w3.1⟩
       rcases yg.1 hq with rfl | hq
       ·exact w3.2
       ·exact w1 q hq hn
      ·rintro ⟨w1,w2⟩
       exact ⟨fun q hq hn => w1 q (yb _ hq) hn,fun _ => (m3 y).2 ⟨w2 d,w1 p ya hpp⟩⟩
end
variable {pred : List (List Int)} (hpr : ∀ x,O x → ∀ p,p ∈ pred.getD x.toNat [] ↔ E p x) (hpn : ∀ x,O x → ∀ p ∈ pred.getD x.toNat [],0 ≤ p ∧ p < (n : Int))
section
variable {t : List Int} (htl : t.length = n) (I : Inv E root O pos (tf t))
include H hO hal hat hpr hpn htl I
theorem ztV {K : Nat} (hK : ∀ a,O a → 2 * pos a < K) : ∀ (l : List Int),(∀ x ∈ l,O x ∧ x ≠ root) → l.Pairwise (fun a b => pos a < pos b) → (∀ y,O y → y ≠ root → y ∉ l → (∀ x ∈ l,pos y < pos x) → St E root (tf t) y) → (∀ y,O y → y ≠ root → y ∉ l → (∀ x ∈ l,pos y < pos x) ∨ False) →
  (zrf pred t at' K l = some none ∧ ∀ x ∈ l,St E root (tf t) x) ∨ (∃ x b,zrf pred t at' K l = some (some (x,b)) ∧ x ∈ l ∧ Upd E root O pos (tf t) (tf (t.set x.toNat b)) x b)
 | [],_,_,_,_ => .inl ⟨rfl,by simp⟩
 | x :: l,hl,hs,hst,hall => by
   obtain ⟨ox,hxr⟩:=hl x ya
   have rx:=hO x ox
   have hlt:=yo.1 hs
   have early : ∀ y,O y → y ≠ root → pos y < pos x → St E root (tf t) y:=fun y h1 h2 h3 => by
    have hn : y ∉ x :: l:=by
     intro h
     rcases yg.1 h with rfl | h
     ·omega
     ·have:=hlt.1 y h; omega
    exact hst y h1 h2 hn ((hall y h1 h2 hn).resolve_right id)
   obtain ⟨c,h1,h2⟩:=zlK H hO hal hat htl I hK (pred.getD x.toNat []) (-2) (hpn x ox) (.inl rfl)
   rcases h2 with ⟨k1,k2,k3⟩ | ⟨k1,k2⟩
   ·obtain ⟨p,q1,q2,q3⟩:=H.par x ox hxr
    have:=k3 p ((hpr x ox p).2 q2)
    exact absurd this (zrp H I early q1 q3)
   ·have com : ∀ y,Anc root (tf t) y c ↔ Com E root (tf t) x y:=fun y => by
     rw [k2 y]
     constructor
     ·rintro ⟨w,_⟩ p e hp
      exact w p ((hpr x ox p).2 e) hp
     ·intro w
      exact ⟨fun p hp hn => w p ((hpr x ox p).1 hp) hn,fun h => absurd rfl h⟩
    have ex:=zud (t:=t) rx.1
    rw [zrf,if_pos (by rw [htl]; exact zvJ rx),h1]
    simp only
    by_cases d : tr t x = c
    ·rw [if_pos d]
     have sx : St E root (tf t) x:=by
      refine ⟨?_,fun y => ?_⟩
      ·rw [ex,d]
       exact I.nn _ (zi7 H I k1)
      ·rw [ex,d]
       exact com y
     have:=ztV hK l (fun y hy => hl y (yb _ hy)) hlt.2 (fun y h1 h2 h3 h4 => ?_) (fun y h1 h2 h3 => ?_)
     ·rcases this with ⟨w1,w2⟩ | ⟨y,b,w1,w2,w3⟩
      ·refine .inl ⟨w1,fun y hy => ?_⟩
       rcases yg.1 hy with rfl | hy
       ·exact sx
       ·exact w2 y hy
      ·exact .inr ⟨y,b,w1,yb _ w2,w3⟩
     ·by_cases e : y = x
      ·rw [e]; exact sx
      ·have hn : y ∉ x :: l:=fun h => (yg.1 h).elim e h3
       exact hst y h1 h2 hn ((hall y h1 h2 hn).resolve_right id)
     ·by_cases e : y = x
      ·rw [e]; exact .inl hlt.1
      ·have hn : y ∉ x :: l:=fun h => (yg.1 h).elim e h3
       exact .inl fun z hz => ((hall y h1 h2 hn).resolve_right id) z (yb _ hz)
    ·rw [if_neg d]
     refine .inr ⟨x,c,rfl,ya,?_,fun y hy => ?_,ox,hxr,early,k1,com,?_⟩
     ·rw [zud rx.1,zvn c (by rw [htl]; exact rx) rx.1,if_pos rfl]
     ·unfold tf
      by_cases e : 0 ≤ y
      ·rw [if_pos e,if_pos e,zvn c (by rw [htl]; exact rx) e,if_neg hy]
      ·rw [if_neg e,if_neg e]
     ·rw [ex]
      exact fun h => d h.symm
end
def wgt (pos : Int → Nat) (M : Nat) (t : List Int) (x : Int) : Nat:=if tf t x = -2 then M else pos (tf t x)
theorem zDX {l : List Int} {f g : Int → Nat} (h : ∀ x ∈ l,g x ≤ f x) {z : Int} (hz : z ∈ l) (hlt : g z < f z) : (l.map g).sum < (l.map f).sum:=by
 induction l with
 | nil => cases hz
 | cons a l ih =>
   have le : ∀ l : List Int,(∀ x ∈ l,g x ≤ f x) → (l.map g).sum ≤ (l.map f).sum:=by
    intro l
    induction l with
    | nil => intro _; exact yD _
    | cons b l ih =>
      intro h
      have h1:=h b ya
      have h2:=ih fun x hx => h x (yb _ hx)
      simp only [yU,yV]
      omega
   simp only [yU,yV]
   have h1:=h a ya
   have hr:=fun x hx => h x (yb a hx)
   rcases yg.1 hz with rfl | hz
   ·have:=le l hr
    omega
   ·have:=ih hr hz
    omega
include H hO hal hat hpr hpn in
theorem zBl {K M : Nat} (hK : ∀ a,O a → 2 * pos a < K) (hM : ∀ a,O a → pos a < M) (tail : List Int) (hl : ∀ x ∈ tail,O x ∧ x ≠ root) (hs : tail.Pairwise (fun a b => pos a < pos b)) (hall : ∀ y,O y → y ≠ root → y ∈ tail) :
  ∀ (r : Nat) (t : List Int),t.length = n → Inv E root O pos (tf t) → (tail.map (wgt pos M t)).sum < r → ∃ t',zhb pred at' K tail r t = some t' ∧ t'.length = n ∧ Inv E root O pos (tf t') ∧ ∀ x,O x → x ≠ root → St E root (tf t') x:=by
 intro r
 induction r with
 | zero => intro t _ _ h; omega
 | succ r ih =>
   intro t htl I hr
   rw [zhb]
   rcases ztV H hO hal hat hpr hpn htl I hK tail hl hs (fun y h1 h2 h3 => absurd (hall y h1 h2) h3) (fun y h1 h2 h3 => absurd (hall y h1 h2) h3) with ⟨h1,h2⟩ | ⟨x,b,h1,h2,U⟩
   ·rw [h1]
    exact ⟨t,rfl,htl,I,fun x h3 h4 => h2 x (hall x h3 h4)⟩
   ·rw [h1]
    refine ih _ (by simp [htl]) (zC4 H I U) ?_
    have key : (tail.map (wgt pos M (t.set x.toNat b))).sum < (tail.map (wgt pos M t)).sum:=by
     obtain ⟨m1,m2,m3⟩:=zC0 H I U
     have hbM:=hM b (zi7 H I U.hm)
     refine zDX (fun y _ => ?_) h2 ?_
     ·by_cases c : y = x
      ·subst c
       unfold wgt
       rw [U.at',if_neg m2]
       split
       ·omega
       ·rename_i d
        exact Nat.le_of_lt (zzj H I U d)
      ·unfold wgt
       rw [U.ne y c]
       exact yD _
     ·unfold wgt
      rw [U.at',if_neg m2]
      split
      ·exact hbM
      ·rename_i d
       exact zzj H I U d
    omega
end
end AC
namespace AC
open Dm
def Eg (succ : List (List Int)) (p x : Int) : Prop:=0 ≤ p ∧ p < (succ.length : Int) ∧ x ∈ succ.getD p.toNat []
section
variable (succ : List (List Int)) (root : Int)
def zFq : List Int → Prop
 | [] => False
 | [x] => x = root
 | x :: y :: s => Eg succ y x ∧ zFq (y :: s)
structure DS (d : DF) : Prop where
 sl : d.seen.length = 64
 nl : d.next.length = 64
 rng : ∀ x,x ∈ d.stk ∨ x ∈ d.out → 0 ≤ x ∧ x < (succ.length : Int)
 mem : ∀ x,0 ≤ x → x < (succ.length : Int) → (d.seen.getD x.toNat false = true ↔ x ∈ d.stk ∨ x ∈ d.out)
 nd : (d.stk ++ d.out).Nodup
 bk : zFq succ root d.stk
 cl : ∀ x ∈ d.out,∀ y,Eg succ x y → y ∈ d.stk ∨ y ∈ d.out
 nx : ∀ x ∈ d.stk,∀ j y,j < d.next.getD x.toNat 0 → (succ.getD x.toNat [])[j]? = some y → y ∈ d.stk ∨ y ∈ d.out
 fr : ∀ x,0 ≤ x → x < (succ.length : Int) → ¬ (x ∈ d.stk ∨ x ∈ d.out) → d.next.getD x.toNat 0 = 0
 par : ∀ l1 x l2,d.out = l1 ++ x :: l2 → ∃ p,Eg succ p x ∧ (p ∈ l2 ∨ p ∈ d.stk)
 rch : ∀ x,x ∈ d.stk ∨ x ∈ d.out → ∃ l,Way (Eg succ) root x l
end
theorem ztd {seen : List Bool} : ∀ {l : List Int} {k : Nat} {y : Int} {j : Nat},scan seen l k = some (y,j) → ∃ i,j = k + i + 1 ∧ l[i]? = some y ∧ seen.getD y.toNat false = false ∧ ∀ i' z,i' < i → l[i']? = some z → seen.getD z.toNat false = true
 | [],_,_,_,h => by simp [scan] at h
 | z :: r,k,y,j,h => by
   simp only [scan] at h
   split at h
   ·rename_i c
    obtain ⟨i,h1,h2,h3,h4⟩:=ztd h
    refine ⟨i + 1,by omega,by simpa using h2,h3,fun i' w hi hw => ?_⟩
    cases i' with
    | zero => simp at hw; rw [← hw]; exact c
    | succ i' => exact h4 i' w (by omega) (by simpa using hw)
   ·rename_i c
    simp only [Option.some.injEq,Prod.mk.injEq] at h
    obtain ⟨rfl,rfl⟩:=h
    exact ⟨0,by omega,rfl,by simpa using c,fun i' w hi => by omega⟩
theorem ztl {seen : List Bool} : ∀ {l : List Int} {k : Nat},scan seen l k = none → ∀ z ∈ l,seen.getD z.toNat false = true
 | [],_,_ => by simp
 | z :: r,k,h => by
   simp only [scan] at h
   split at h
   ·rename_i c
    intro w hw
    rcases yg.1 hw with rfl | hw
    ·exact c
    ·exact ztl h w hw
   ·cases h
theorem zhV {l : List Int} {n : Nat} (hd : l.Nodup) (h : ∀ x ∈ l,0 ≤ x ∧ x < (n : Int)) : l.length ≤ n:=by
 have:=hd.length_le_of_subset (l₂:=(yL n).map fun i : Nat => (i : Int)) (fun x hx => by
  obtain ⟨h1,h2⟩:=h x hx
  exact List.mem_map.2 ⟨x.toNat,yae.2 (by omega),by omega⟩)
 simpa using this
section
variable {succ : List (List Int)} {root : Int} (hn : succ.length ≤ 64) (hr : ∀ l ∈ succ,∀ y ∈ l,0 ≤ y ∧ y < (succ.length : Int))
include hr in
theorem zu4 {x y : Int} (h : Eg succ x y) : 0 ≤ y ∧ y < (succ.length : Int):=by
 obtain ⟨h1,h2,h3⟩:=h
 have hlt : x.toNat < succ.length:=by omega
 rw [ye,yh hlt] at h3
 exact hr _ (yv hlt) y h3
include hn hr
theorem zDL {d : DF} (D : DS succ root d) {x : Int} {s : List Int} (hs : d.stk = x :: s) {y : Int} {j : Nat} (h : zf7 succ d x = some (y,j)) :
  DS succ root ⟨d.seen.set y.toNat true,d.next.set x.toNat j,d.out,y :: x :: s⟩ ∧ ¬ (y ∈ d.stk ∨ y ∈ d.out) ∧ 0 ≤ y ∧ y < (succ.length : Int):=by
 obtain ⟨i,rfl,h2,h3,h4⟩:=ztd h
 have rx:=D.rng x (.inl (by rw [hs]; exact ya))
 have hy' : (succ.getD x.toNat [])[d.next.getD x.toNat 0 + i]? = some y:=by simpa using h2
 have e : Eg succ x y:=⟨rx.1,rx.2,yM hy'⟩
 have ry:=zu4 hr e
 have hny : ¬ (y ∈ d.stk ∨ y ∈ d.out):=fun hm => by
  have:=(D.mem y ry.1 ry.2).2 hm
  rw [h3] at this
  cases this
 have hxy : x ≠ y:=fun h => hny (.inl (by rw [hs,← h]; exact ya))
 have hsl:=D.sl
 have hnl:=D.nl
 have up : ∀ z,(z ∈ d.stk ∨ z ∈ d.out) → (z ∈ y :: x :: s ∨ z ∈ d.out):=fun z hz => by
  rw [hs] at hz
  rcases hz with hz | hz
  ·exact .inl (yb _ hz)
  ·exact .inr hz
 have dn : ∀ z,(z ∈ y :: x :: s ∨ z ∈ d.out) → z = y ∨ (z ∈ d.stk ∨ z ∈ d.out):=fun z hz => by
  rw [hs]
  rcases hz with hz | hz
  ·rcases yg.1 hz with hz | hz
   ·exact .inl hz
   ·exact .inr (.inl hz)
  ·exact .inr (.inr hz)
 refine ⟨⟨by simp [hsl],by simp [hnl],fun z hz => ?_,fun z z0 z1 => ?_,?_,?_,fun z hz w hw => up w (D.cl z hz w hw),fun z hz k w hk hw => ?_,fun z z0 z1 hz => ?_,fun l1 z l2 hl => ?_,fun z hz => ?_⟩,hny,ry⟩
 ·rcases dn z hz with rfl | hz
  ·exact ry
  ·exact D.rng z hz
 ·by_cases c : z = y
  ·subst c
   rw [zbh _ _ (by omega)]
   simp
  ·rw [getD_set_ne _ _ (by omega),D.mem z z0 z1]
   exact ⟨up z,fun h => (dn z h).resolve_left c⟩
 ·show (y :: x :: s ++ d.out).Nodup
  have:=D.nd
  rw [hs] at this
  rw [y7,yG]
  refine ⟨fun hm => hny ?_,this⟩
  rw [hs]
  exact yu.1 hm
 ·show zFq succ root (y :: x :: s)
  have:=D.bk
  rw [hs] at this
  exact ⟨e,this⟩
 ·by_cases c : z = x
  ·subst c
   rw [zbh _ _ (by omega)] at hk
   by_cases c1 : k < d.next.getD z.toNat 0
   ·exact up w (D.nx z (by rw [hs]; exact ya) k w c1 hw)
   ·by_cases c2 : k = d.next.getD z.toNat 0 + i
    ·rw [c2,hy'] at hw
     injection hw with hw
     exact .inl (by rw [← hw]; exact ya)
    ·have hd : ((succ.getD z.toNat []).drop (d.next.getD z.toNat 0))[k - d.next.getD z.toNat 0]? = some w:=by
      rw [y3]
      rwa [show d.next.getD z.toNat 0 + (k - d.next.getD z.toNat 0) = k by omega]
     have h5:=h4 _ w (by omega) hd
     have rw':=zu4 hr (⟨rx.1,rx.2,yM hw⟩ : Eg succ z w)
     exact up w ((D.mem w rw'.1 rw'.2).1 h5)
  ·rcases yg.1 hz with rfl | hz
   ·have c0 : z.toNat ≠ x.toNat:=by omega
    rw [getD_set_ne _ _ (fun h => c0 h.symm),D.fr z ry.1 ry.2 hny] at hk
    omega
   ·have hz' : z ∈ d.stk:=by rw [hs]; exact hz
    have rz:=D.rng z (.inl hz')
    rw [getD_set_ne _ _ (by omega)] at hk
    exact up w (D.nx z hz' k w hk hw)
 ·have h0 : ¬ (z ∈ d.stk ∨ z ∈ d.out):=fun h => hz (up z h)
  have hzx : z ≠ x:=fun h => h0 (.inl (by rw [hs,h]; exact ya))
  show (d.next.set x.toNat _).getD z.toNat 0 = 0
  rw [getD_set_ne _ _ (by omega)]
  exact D.fr z z0 z1 h0
 ·obtain ⟨p,h5,h6⟩:=D.par l1 z l2 hl
  refine ⟨p,h5,h6.imp id fun h => ?_⟩
  rw [hs] at h
  exact yb _ h
 ·rcases dn z hz with rfl | hz
  ·obtain ⟨l,w⟩:=D.rch x (.inl (by rw [hs]; exact ya))
   exact ⟨_,.step w e⟩
  ·exact D.rch z hz
omit hn in
theorem zu6 {d : DF} (D : DS succ root d) {x : Int} {s : List Int} (hs : d.stk = x :: s) (h : zf7 succ d x = none) : ∀ y,Eg succ x y → y ∈ d.stk ∨ y ∈ d.out:=by
 intro y e
 obtain ⟨k,hk⟩:=yI.1 e.2.2
 by_cases c : k < d.next.getD x.toNat 0
 ·exact D.nx x (by rw [hs]; exact ya) k y c hk
 ·have ry:=zu4 hr e
  refine (D.mem y ry.1 ry.2).1 (ztl h y (yM (i:=k - d.next.getD x.toNat 0) ?_))
  rw [y3]
  rwa [show d.next.getD x.toNat 0 + (k - d.next.getD x.toNat 0) = k by omega]
omit hn in
theorem zEp {d : DF} (D : DS succ root d) {x z : Int} {s : List Int} (hs : d.stk = x :: z :: s) (h : zf7 succ d x = none) (m : Nat) :
  DS succ root ⟨d.seen,d.next.set x.toNat m,d.out ++ [x],z :: s⟩:=by
 have hall:=zu6 hr D hs h
 have rx:=D.rng x (.inl (by rw [hs]; exact ya))
 have iff : ∀ w,(w ∈ z :: s ∨ w ∈ d.out ++ [x]) ↔ (w ∈ d.stk ∨ w ∈ d.out):=fun w => by
  rw [hs,yu,yk,yg (a:=w) (b:=x)]
  constructor
  ·rintro (h | h | h)
   ·exact .inl (.inr h)
   ·exact .inr h
   ·exact .inl (.inl h)
  ·rintro ((h | h) | h)
   ·exact .inr (.inr h)
   ·exact .inl h
   ·exact .inr (.inl h)
 have hnd:=D.nd
 rw [hs,y7,yG] at hnd
 have hxs : x ∉ z :: s:=fun hm => hnd.1 (List.mem_append_left _ hm)
 have hxo : x ∉ d.out:=fun hm => hnd.1 (List.mem_append_right _ hm)
 refine ⟨D.sl,by simp [D.nl],fun w hw => D.rng w ((iff w).1 hw),fun w w0 w1 => (D.mem w w0 w1).trans (iff w).symm,?_,?_,fun w hw y hy => ?_,fun w hw k y hk hy => ?_,fun w w0 w1 hw => ?_,fun l1 w l2 hl => ?_,fun w hw => D.rch w ((iff w).1 hw)⟩
 ·show (z :: s ++ (d.out ++ [x])).Nodup
  rw [← yJ,y4]
  refine ⟨hnd.2,by simp,fun a ha b hb => ?_⟩
  rw [yk.1 hb]
  rintro rfl
  exact hnd.1 ha
 ·have:=D.bk
  rw [hs] at this
  exact this.2
 ·rw [iff]
  rcases yu.1 hw with hw | hw
  ·exact D.cl w hw y hy
  ·rw [yk.1 hw] at hy
   exact hall y hy
 ·rw [iff]
  have hne : w ≠ x:=fun h => hxs (h ▸ hw)
  have hw' : w ∈ d.stk:=by rw [hs]; exact yb _ hw
  have rw':=D.rng w (.inl hw')
  have hk' : k < (d.next.set x.toNat m).getD w.toNat 0:=hk
  rw [getD_set_ne _ _ (by omega)] at hk'
  exact D.nx w hw' k y hk' hy
 ·have hw' : ¬ (w ∈ d.stk ∨ w ∈ d.out):=fun h => hw ((iff w).2 h)
  have hne : w ≠ x:=fun h => hw' (.inl (by rw [h,hs]; exact ya))
  show (d.next.set x.toNat m).getD w.toNat 0 = 0
  rw [getD_set_ne _ _ (by omega)]
  exact D.fr w w0 w1 hw'
 ·have hl : d.out ++ [x] = l1 ++ w :: l2:=hl
  have hbk:=D.bk
  rw [hs] at hbk
  rcases yW l2 with h2 | ⟨l2',q,h2⟩
  ·subst h2
   have:=yC hl rfl
   injection this with this
   subst this
   exact ⟨z,hbk.1,.inr ya⟩
  ·subst h2
   have h3 : d.out ++ [x] = (l1 ++ w :: l2') ++ [q]:=by rw [hl]; simp
   have e1:=yX h3 rfl
   have e2:=yC h3 rfl
   injection e2 with e2
   subst e2
   obtain ⟨p,h5,h6⟩:=D.par l1 w l2' e1
   refine ⟨p,h5,?_⟩
   rw [hs] at h6
   rcases h6 with h6 | h6
   ·exact .inl (by simp [h6])
   ·rcases yg.1 h6 with rfl | h6
    ·exact .inl (by simp)
    ·exact .inr h6
structure Left (succ : List (List Int)) (root : Int) (o : List Int) : Prop where
 nd : o.Nodup
 last : ∃ l,o = l ++ [root]
 rng : ∀ x ∈ o,0 ≤ x ∧ x < (succ.length : Int)
 cl : ∀ x ∈ o,∀ y,Eg succ x y → y ∈ o
 par : ∀ l1 x l2,o = l1 ++ x :: l2 → x ≠ root → ∃ p,Eg succ p x ∧ p ∈ l2
 rch : ∀ x ∈ o,∃ l,Way (Eg succ) root x l
omit hn in
theorem zEB {d : DF} (D : DS succ root d) {x : Int} (hs : d.stk = [x]) (h : zf7 succ d x = none) : Left succ root (d.out ++ [x]):=by
 have hall:=zu6 hr D hs h
 have hbk:=D.bk
 rw [hs] at hbk
 have hxr : x = root:=hbk
 have iff : ∀ w,(w ∈ d.out ++ [x]) ↔ (w ∈ d.stk ∨ w ∈ d.out):=fun w => by
  rw [hs,yu]
  exact or_comm
 have hnd:=D.nd
 rw [hs,yK,yG] at hnd
 refine ⟨?_,⟨d.out,by rw [hxr]⟩,fun w hw => D.rng w ((iff w).1 hw),fun w hw y hy => ?_,fun l1 w l2 hl hw => ?_,fun w hw => D.rch w ((iff w).1 hw)⟩
 ·rw [y4]
  refine ⟨hnd.2,by simp,fun a ha b hb => ?_⟩
  rw [yk.1 hb]
  rintro rfl
  exact hnd.1 ha
 ·rw [iff]
  rcases yu.1 hw with hw | hw
  ·exact D.cl w hw y hy
  ·rw [yk.1 hw] at hy
   exact hall y hy
 ·rcases yW l2 with h2 | ⟨l2',q,h2⟩
  ·subst h2
   have:=yC hl rfl
   injection this with this
   exact absurd (this.symm.trans hxr) hw
  ·subst h2
   have h3 : d.out ++ [x] = (l1 ++ w :: l2') ++ [q]:=by rw [hl]; simp
   have e1:=yX h3 rfl
   have e2:=yC h3 rfl
   injection e2 with e2
   subst e2
   obtain ⟨p,h5,h6⟩:=D.par l1 w l2' e1
   refine ⟨p,h5,?_⟩
   rw [hs] at h6
   rcases h6 with h6 | h6
   ·simp [h6]
   ·rw [yk.1 h6]; simp
theorem zBP : ∀ (k : Nat) (d : DF),DS succ root d → 2 * (64 - (d.stk.length + d.out.length)) + d.stk.length < k → ∃ o,dfs succ k d = some o ∧ Left succ root o:=by
 intro k
 induction k with
 | zero => intro d _ h; omega
 | succ k ih =>
   intro d D hk
   rw [dfs]
   cases hs : d.stk with
   | nil =>
     have:=D.bk
     rw [hs] at this
     exact this.elim
   | cons x s =>
     simp only
     have hle : d.stk.length + d.out.length ≤ 64:=by
      have:=zhV D.nd fun x hx => D.rng x (yu.1 hx)
      rw [yz] at this
      omega
     cases hc : zf7 succ d x with
     | some yj =>
       obtain ⟨y,j⟩:=yj
       simp only
       obtain ⟨D',h1,h2,h3⟩:=zDL hn hr D hs hc
       have hle' : (y :: x :: s).length + d.out.length ≤ 64:=by
        have:=zhV D'.nd fun x hx => D'.rng x (yu.1 hx)
        rw [yz] at this
        exact yag this hn
       rw [hs] at hk
       simp only [yw] at hk hle'
       exact ih _ D' (by simp only [yw]; omega)
     | none =>
       simp only
       cases s with
       | nil => exact ⟨_,rfl,zEB hr D hs hc⟩
       | cons z s =>
         have D':=zEp hr D hs hc (zwv succ x)
         rw [hs] at hk hle
         simp only [yw] at hk hle
         exact ih _ D' (by simp only [yz,yw,yN]; omega)
theorem zzm (h0 : 0 ≤ root ∧ root < (succ.length : Int)) : ∃ o,dfs succ 200 (zsn root) = some o ∧ Left succ root o:=by
 refine zBP hn hr 200 _ ⟨by simp [zsn,zpZ],rfl,fun x hx => ?_,fun x x0 x1 => ?_,by simp [zsn],rfl,by simp [zsn],fun x hx j y hj => ?_,fun x _ _ _ => ?_,fun l1 x l2 hl => ?_,fun x hx => ?_⟩ (by simp [zsn])
 ·simp only [zsn,yk,yR,or_false] at hx
  rw [hx]; exact h0
 ·simp only [zsn,yk,yR,or_false]
  by_cases c : x = root
  ·subst c
   rw [zbh _ _ (by simp [zpZ]; omega)]
   simp
  ·rw [getD_set_ne _ _ (by omega)]
   simp only [c,iff_false]
   unfold zpZ
   rw [ye,yp]
   split <;> simp
 ·exfalso
  have : znW.getD x.toNat 0 = 0:=by unfold znW; rw [ye,yp]; split <;> rfl
  have hj : j < znW.getD x.toNat 0:=hj
  omega
 ·show znW.getD x.toNat 0 = 0
  unfold znW
  rw [ye,yp]
  split <;> rfl
 ·have hl : ([] : List Int) = l1 ++ x :: l2:=hl
  simp at hl
 ·simp only [zsn,yk,yR,or_false] at hx
  rw [hx]
  exact ⟨_,.root⟩
end
end AC
namespace AC
open Dm
theorem zAj {x : Int} (hx : 0 ≤ x) : ∀ (l : List Int) (i : Nat) (a : List Int),(∀ y ∈ l,0 ≤ y) → x ∉ l → tr (zjr i l a) x = tr a x
 | [],_,_,_,_ => rfl
 | y :: l,i,a,hl,hn => by
   rw [zjr,zAj hx l _ _ (fun z hz => hl z (yb _ hz)) (fun h => hn (yb _ h))]
   unfold tr
   have:=hl y ya
   rw [getD_set_ne _ _ (fun h => hn (by rw [show x = y by omega]; exact ya))]
theorem zzW : ∀ (l : List Int) (i : Nat) (a : List Int),(∀ y ∈ l,0 ≤ y ∧ y < (a.length : Int)) → l.Nodup → ∀ (j : Nat) (x : Int),l[j]? = some x → tr (zjr i l a) x = ((i + j : Nat) : Int)
 | [],_,_,_,_,j,x,h => by simp at h
 | y :: l,i,a,hl,hd,j,x,h => by
   have hy:=hl y ya
   have hd':=yG.1 hd
   have hl' : ∀ z ∈ l,0 ≤ z ∧ z < ((a.set y.toNat (i : Int)).length : Int):=fun z hz => by rw [yH]; exact hl z (yb _ hz)
   rw [zjr]
   cases j with
   | zero =>
     simp only [yF,Option.some.injEq] at h
     subst h
     rw [zAj hy.1 l _ _ (fun z hz => (hl' z hz).1) hd'.1]
     unfold tr
     rw [zbh _ _ (by omega),yO]
   | succ j =>
     rw [zzW l (i + 1) _ hl' hd'.2 j x (by simpa using h)]
     congr 1
     omega
theorem zrZ (i : Int) (out : List (List Int)) (x : Int) (X : Nat) (hx : 0 ≤ x) (hX : X < out.length) : (ztm i out x).getD X [] = if x = X then out.getD X [] ++ [i] else out.getD X []:=by
 unfold ztm
 by_cases c : x = (X : Int)
 ·subst c
  rw [if_pos rfl,yf,zbh _ _ hX]
 ·rw [if_neg c,getD_set_ne _ _ (by omega)]
theorem zo6 (i : Int) (X : Nat) (y : Int) : ∀ (l : List Int) (out : List (List Int)),(∀ x ∈ l,0 ≤ x) → X < out.length → (y ∈ (l.foldl (ztm i) out).getD X [] ↔ y ∈ out.getD X [] ∨ (y = i ∧ (X : Int) ∈ l))
 | [],out,_,_ => by simp
 | x :: l,out,hl,hX => by
   rw [y9,zo6 i X y l _ (fun z hz => hl z (yb _ hz)) (by rw [zfF]; exact hX),zrZ i out x X (hl x ya) hX]
   by_cases c : x = (X : Int)
   ·rw [if_pos c,yu,yk,yg]
    constructor
    ·rintro ((h | h) | h)
     ·exact .inl h
     ·exact .inr ⟨h,.inl c.symm⟩
     ·exact .inr ⟨h.1,.inr h.2⟩
    ·rintro (h | h)
     ·exact .inl (.inl h)
     ·exact .inl (.inr h.1)
   ·rw [if_neg c,yg]
    constructor
    ·rintro (h | h)
     ·exact .inl h
     ·exact .inr ⟨h.1,.inr h.2⟩
    ·rintro (h | ⟨h1,h2 | h2⟩)
     ·exact .inl h
     ·exact absurd h2.symm c
     ·exact .inr ⟨h1,h2⟩
theorem zl9 (X : Nat) (y : Int) : ∀ (l : List (List Int)) (i : Nat) (out : List (List Int)),(∀ r ∈ l,∀ x ∈ r,0 ≤ x) → X < out.length → (y ∈ (za9 i l out).getD X [] ↔ y ∈ out.getD X [] ∨ ∃ j r,l[j]? = some r ∧ y = ((i + j : Nat) : Int) ∧ (X : Int) ∈ r)
 | [],i,out,_,_ => by simp [za9]
 | r :: l,i,out,hl,hX => by
   rw [za9,zl9 X y l (i + 1) _ (fun z hz => hl z (yb _ hz)) (by rw [zf2]; exact hX),zo6 (i : Int) X y r out (hl r ya) hX]
   constructor
   ·rintro ((h | h) | ⟨j,q,h1,h2,h3⟩)
    ·exact .inl h
    ·exact .inr ⟨0,r,rfl,by rw [h.1,yO],h.2⟩
    ·exact .inr ⟨j + 1,q,by simpa using h1,by rw [h2]; congr 1; omega,h3⟩
   ·rintro (h | ⟨j,q,h1,h2,h3⟩)
    ·exact .inl (.inl h)
    ·cases j with
     | zero =>
       simp only [yF,Option.some.injEq] at h1
       subst h1
       exact .inl (.inr ⟨by rw [h2,yO],h3⟩)
     | succ j => exact .inr ⟨j,q,by simpa using h1,by rw [h2]; congr 1; omega,h3⟩
theorem zoT {n : Int} : ∀ {l : List Int} {last : Int},zP n last l = true → ∀ x ∈ l,last < x ∧ x < n
 | [],_,_ => by simp
 | y :: r,last,h => by
   simp only [zP] at h
   split at h
   ·cases h
   ·rename_i c
    intro x hx
    rcases yg.1 hx with rfl | hx
    ·omega
    ·have:=zoT h x hx
     omega
theorem zew {succ : List (List Int)} (h : zbk succ = true) : 1 ≤ succ.length ∧ succ.length ≤ 64 ∧ ∀ l ∈ succ,∀ y ∈ l,0 ≤ y ∧ y < (succ.length : Int):=by
 unfold zbk at h
 simp only [y5,yZ,decide_eq_false_iff_not,yP] at h
 refine ⟨by omega,by omega,fun l hl y hy => ?_⟩
 have h3 : rising l succ.length = true:=by simpa using h.2.2 l hl
 have:=zoT h3 y hy
 omega
theorem zms {succ : List (List Int)} (hr : ∀ l ∈ succ,∀ y ∈ l,0 ≤ y ∧ y < (succ.length : Int)) {x : Int} (hx : 0 ≤ x ∧ x < (succ.length : Int)) (p : Int) : p ∈ (zM succ).getD x.toNat [] ↔ Eg succ p x:=by
 unfold zM
 rw [zl9 x.toNat p succ 0 _ (fun l hl y hy => (hr l hl y hy).1) (by simp; omega)]
 have e0 : (yq succ.length ([] : List Int)).getD x.toNat [] = []:=by
  rw [ye,yp]
  split <;> rfl
 rw [e0]
 have ex : ((x.toNat : Nat) : Int) = x:=by omega
 rw [ex]
 constructor
 ·rintro (h | ⟨j,r,h1,h2,h3⟩)
  ·simp at h
  ·have hj:=(yy.1 h1).1
   refine ⟨by omega,by omega,?_⟩
   rw [show p.toNat = j by omega,ye,h1]
   exact h3
 ·rintro ⟨h1,h2,h3⟩
  have hlt : p.toNat < succ.length:=by omega
  rw [ye,yh hlt] at h3
  exact .inr ⟨p.toNat,succ[p.toNat],yh hlt,by omega,h3⟩
structure TreeOf (succ : List (List Int)) (root : Int) (O : Int → Prop) (pos : Int → Nat) (t : List Int) : Prop where
 len : t.length = succ.length
 ord : Ord (Eg succ) root O pos
 rng : ∀ a,O a → 0 ≤ a ∧ a < (succ.length : Int)
 inv : Inv (Eg succ) root O pos (tf t)
 st : ∀ x,O x → x ≠ root → St (Eg succ) root (tf t) x
 low : ∀ a,O a → pos a < succ.length
 rch : ∀ a,O a ↔ ∃ l,Way (Eg succ) root a l
theorem zAv {n root : Nat} (h : root < n) (x : Int) : tf (zkt n root) x = if x = root then (root : Int) else -2:=by
 unfold tf zkt
 by_cases c : 0 ≤ x
 ·rw [if_pos c]
  have e : tr ((yq n (-2 : Int)).set ((root : Nat) : Int).toNat root) x = if x = root then (root : Int) else tr (yq n (-2 : Int)) x:=zvn _ ⟨by omega,by simp; omega⟩ c
  rw [yf] at e
  rw [e]
  split
  ·rfl
  ·unfold tr
   rw [ye,yp]
   split <;> rfl
 ·rw [if_neg c,if_neg (by omega)]
theorem zDh {succ : List (List Int)} (hm : zbk succ = true) {root : Nat} (h0 : root < succ.length) :
  ∃ o o0 tail t O pos,dfs succ 200 (zsn root) = some o ∧ o.reverse = o0 :: tail ∧ (∀ x ∈ o,0 ≤ x ∧ x < (succ.length : Int)) ∧ o.length ≤ 64 ∧
    zhb (zM succ) (at0 succ.length o.reverse) 200 tail 5000 (zkt succ.length root) = some t ∧ TreeOf succ root O pos t ∧ (∀ x,O x ↔ x ∈ o):=by
 obtain ⟨n1,n64,hr⟩:=zew hm
 obtain ⟨o,ho,L⟩:=zzm (root:=(root : Int)) n64 hr (by omega)
 obtain ⟨l0,hl0⟩:=L.last
 have hrev : o.reverse = (root : Int) :: l0.reverse:=by rw [hl0]; simp
 have hnd : o.reverse.Nodup:=List.pairwise_reverse.2 (L.nd.imp fun h => h.symm)
 have hlen : o.length ≤ 64:=yag (zhV L.nd L.rng) n64
 have hrl : o.reverse.length ≤ succ.length:=by rw [y1]; exact zhV L.nd L.rng
 obtain ⟨at',hat'⟩ : ∃ a,a = at0 succ.length o.reverse:=⟨_,rfl⟩
 have hal : at'.length = succ.length:=by rw [hat',at0,ziF]; simp
 have hget : ∀ (j : Nat) (x : Int),o.reverse[j]? = some x → tr at' x = (j : Int):=fun j x h => by
  have:=zzW o.reverse 0 (yq succ.length 0) (fun y hy => by rw [List.length_replicate]; exact L.rng y (yE.1 hy)) hnd j x h
  rw [hat',at0,this,yY]
 obtain ⟨pos,hpos⟩ : ∃ p : Int → Nat,p = fun a => (tr at' a).toNat:=⟨_,rfl⟩
 have hp : ∀ (j : Nat) (x : Int),o.reverse[j]? = some x → pos x = j:=fun j x h => by rw [hpos]; simp only; rw [hget j x h]; omega
 have hex : ∀ x,x ∈ o → ∃ j : Nat,o.reverse[j]? = some x ∧ j < o.reverse.length:=fun x hx => by
  obtain ⟨j,hj⟩:=yI.1 (yE.2 hx)
  exact ⟨j,hj,(yy.1 hj).1⟩
 have hroot : o.reverse[0]? = some (root : Int):=by rw [hrev]; rfl
 have hri : (root : Int) ∈ o:=by rw [hl0]; simp
 have hat : ∀ a,a ∈ o → tr at' a = (pos a : Int):=fun a ha => by
  obtain ⟨j,h1,_⟩:=hex a ha
  rw [hget j a h1,hp j a h1]
 have H : Ord (Eg succ) (root : Int) (· ∈ o) pos:=by
  refine ⟨hri,fun a b ha hb h => ?_,fun a _ => ?_,fun x hx hxr => ?_,fun p x hp' e => L.cl p hp' x e⟩
  ·obtain ⟨i,h1,_⟩:=hex a ha
   obtain ⟨j,h2,_⟩:=hex b hb
   rw [hp i a h1,hp j b h2] at h
   subst h
   rw [h1] at h2
   injection h2
  ·rw [hp 0 _ hroot]; omega
  ·obtain ⟨l1,l2,hl⟩:=List.append_of_mem hx
   obtain ⟨p,e,hpl⟩:=L.par l1 x l2 hl hxr
   have hrv : o.reverse = l2.reverse ++ (x :: l1.reverse):=by rw [hl]; simp
   have hx' : o.reverse[l2.length]? = some x:=by
    rw [hrv,List.getElem?_append_right (by simp)]
    simp
   obtain ⟨j,hj⟩:=yI.1 (yE.2 hpl)
   have hjl:=(yy.1 hj).1
   rw [y1] at hjl
   have hp' : o.reverse[j]? = some p:=by rw [hrv,List.getElem?_append_left (by simpa using hjl)]; exact hj
   exact ⟨p,by rw [hl]; simp [hpl],e,by rw [hp _ _ hx',hp _ _ hp']; exact hjl⟩
 have hO : ∀ a,a ∈ o → 0 ≤ a ∧ a < (succ.length : Int):=L.rng
 have hlow : ∀ a,a ∈ o → pos a < succ.length:=fun a ha => by
  obtain ⟨j,h1,h2⟩:=hex a ha
  rw [hp j a h1]
  omega
 have htf:=zAv (n:=succ.length) h0
 have I : Inv (Eg succ) (root : Int) (· ∈ o) pos (tf (zkt succ.length root)):=by
  have hz : ∀ x : Int,x ≠ (root : Int) → ¬ tf (zkt succ.length root) x ≠ -2:=fun x hx h => h (by rw [htf,if_neg hx])
  refine ⟨fun x hx => ?_,by rw [htf,if_pos rfl],fun x hx h => ?_,fun x h1 h2 => absurd h2 (hz x h1),fun x d h1 h2 => absurd h2 (hz x h1),fun x h1 h2 => absurd h2 (hz x h1),fun x h1 h2 => absurd h2 (hz x h1)⟩
  ·rw [htf,if_neg]
   rintro rfl
   exact hx hri
  ·have:=(hO x hx).1
   omega
 have hpw : o.reverse.Pairwise (fun a b => pos a < pos b):=by
  rw [List.pairwise_iff_getElem]
  intro i j hi hj hij
  rw [hp i _ (yh hi),hp j _ (yh hj)]
  exact hij
 rw [hrev] at hpw
 have htail : ∀ x ∈ l0.reverse,x ∈ o ∧ x ≠ (root : Int):=fun x hx => by
  have hx1 : x ∈ o:=by rw [hl0]; simp [yE.1 hx]
  refine ⟨hx1,?_⟩
  rintro rfl
  have:=hnd
  rw [hrev,yG] at this
  exact this.1 hx
 have hall : ∀ y,y ∈ o → y ≠ (root : Int) → y ∈ l0.reverse:=fun y hy hn => by
  rw [hl0] at hy
  simp only [yu,yk] at hy
  exact yE.2 (hy.resolve_right hn)
 have hsum : (l0.reverse.map (wgt pos 64 (zkt succ.length root))).sum < 5000:=by
  have hle : ∀ l : List Int,(l.map (wgt pos 64 (zkt succ.length root))).sum ≤ 64 * l.length:=by
   intro l
   induction l with
   | nil => simp
   | cons x l ih =>
     simp only [yU,yV,yw]
     have : wgt pos 64 (zkt succ.length root) x ≤ 64:=by
      unfold wgt
      rw [htf]
      by_cases c : x = (root : Int)
      ·rw [if_pos c,if_neg (by omega)]
       have:=hlow _ hri
       omega
      ·rw [if_neg c,if_pos rfl]
       exact yD _
     omega
  have h1:=hle l0.reverse
  have h2 : l0.reverse.length ≤ 64:=by
   rw [hl0] at hlen
   simp at hlen ⊢
   omega
  omega
 obtain ⟨t,h1,h2,h3,h4⟩:=zBl H hO hal hat (fun x hx p => zms hr (hO x hx) p) (fun x hx p hp' => by
  have:=(zms hr (hO x hx) p).1 hp'
  exact ⟨this.1,this.2.1⟩) (K:=200) (M:=64) (fun a ha => by have:=hlow a ha; omega) (fun a ha => by have:=hlow a ha; omega) l0.reverse htail (yo.1 hpw).2 hall 5000 (zkt succ.length root) (by simp [zkt]) I hsum
 refine ⟨o,root,l0.reverse,t,(· ∈ o),pos,ho,hrev,hO,hlen,by rw [← hat']; exact h1,⟨h2,H,hO,h3,h4,hlow,fun a => ⟨fun ha => L.rch a ha,fun ⟨l,w⟩ => (zva H w).1⟩⟩,fun _ => Iff.rfl⟩
end AC
namespace AC
open Go Go.A Go.A.Lex
def apT (t : Nat) : Nat → List (List Int) → List (List C)
 | _,[] => []
 | q,l :: r => [.ap t q (l.map ri)] :: apT t (q + 1) r
theorem zkg (t : Nat) : ∀ (out : List (List Int)) (q : Nat),(apT t q out).length = out.length
 | [],_ => rfl
 | l :: r,q => by simp [apT,zkg t r (q + 1)]
theorem zug (t : Nat) : ∀ (out : List (List Int)) (q k : Nat) (h : k < out.length),(apT t q out)[k]? = some [.ap t (q + k) (out[k].map ri)]
 | [],_,_,h => by simp at h
 | l :: r,q,0,_ => by simp [apT]
 | l :: r,q,k + 1,h => by
   simp only [apT,List.getElem?_cons_succ,List.getElem_cons_succ]
   rw [zug t r (q + 1) k (by simpa using h),yaf,yah 1 k]
theorem zyc (t : Nat) : ∀ (out : List (List Int)) (q k : Nat) (l : List Int),(apT t q out).set k [.ap t (q + k) (l.map ri)] = apT t q (out.set k l)
 | [],_,_,_ => rfl
 | x :: r,q,0,l => by simp [apT]
 | x :: r,q,k + 1,l => by
   simp only [apT,List.set_cons_succ]
   rw [← zyc t r (q + 1) k l,yaf,yah 1 k]
theorem zzZ (t : Nat) : ∀ (out : List (List Int)) (q : Nat),zaq (apT t q out) = some (out.map rl)
 | [],_ => rfl
 | x :: r,q => by simp [apT,zaq,zdo,zui,zfO,zzZ t r (q + 1),rl]
theorem zCB (t n : Nat) : (yL n).map (nest t [.f (.sl [])] 0) = apT t 0 (yq n []):=by
 apply ym
 intro k
 by_cases hk : k < n
 ·rw [zug _ _ _ _ (by simpa using hk)]
  simp [hk,nest]
 ·rw [yc (by simp; omega),yc (by rw [zkg]; simp; omega)]
def zhf (i : Int) : Nat → List (List Int) → List Int
 | _,[] => []
 | k,l :: r => if i ∈ l then (k : Int) :: zhf i (k + 1) r else zhf i (k + 1) r
def zhv (l : List Int) (k : Nat) : Int:=if k = 0 then -1 else l.getD (k - 1) (-1)
section
variable (succ : List (List Int)) (hn1 : 1 ≤ succ.length) (hn : succ.length ≤ 64) (hl : ∀ l ∈ succ,l.length ≤ 4294967296)
abbrev sM1 : zd:=[.cells 0 2 [[.f (.sl []),.f (.sl [])]]]
include hn hl
theorem zCb (i : Nat) (hi : i < succ.length) : ∀ (d k : Nat) (a2 a6 a7 a8 a9 a10 a11 a12 a13 a14 a15 : V),succ[i].length - k = d → k ≤ succ[i].length → -1 ≤ zhv succ[i] k →
  exec T zcr ⟨[vLs succ,.one (.ptr 0 0 0 0),a2,vI succ.length,vI i,vI k,a6,a7,a8,a9,a10,a11,a12,a13,a14,a15],sM1,0,0⟩ =
   some (if zP succ.length (zhv succ[i] k) (succ[i].drop k) = true then (.exit 2,⟨[vLs succ,.one (.ptr 0 0 0 0),vU,vI succ.length,vI i,vU,vU,vU,vU,vU,vU,vU,vU,vU,vU,vU],sM1,0,0⟩)
    else (.ret,⟨[vU,.one (.ptr 0 0 0 0),vI 5,vU,vU,vU,vU,vU,vU,vU,vU,vU,vU,vU,vU,vU],sM1,0,0⟩)):=by
 intro d
 induction d with
 | zero =>
   intro k a2 a6 a7 a8 a9 a10 a11 a12 a13 a14 a15 h1 h2 hm
   have hk : k = succ[i].length:=by omega
   subst hk
   rw [xl zcr rfl,zd7]
   simp -implicitDefEqProofs only [go_sem,zp hi,rl,yr,yd,yx,zP,yi,yf]
 | succ d ih =>
   intro k a2 a6 a7 a8 a9 a10 a11 a12 a13 a14 a15 h1 h2 hm
   have hk : k < succ[i].length:=by omega
   have hll:=hl _ (yv hi)
   have hd : succ[i].drop k = succ[i][k] :: succ[i].drop (k + 1):=yl hk
   have hnext : zhv succ[i] (k + 1) = succ[i][k]:=by
    unfold zhv
    rw [if_neg (by omega),y2,ye,yh hk]
    rfl
   have gk:=zp (r:=ri) hk
   obtain ⟨x,hx⟩ : ∃ x,x = succ[i][k]:=⟨_,rfl⟩
   rw [← hx] at gk hnext
   rw [xl zcr rfl,zd7,hd,zP,← hx]
   by_cases c1 : x < 0
   ·have e : x ≤ zhv succ[i] k ∨ (succ.length : Int) ≤ x:=.inl (by omega)
    rw [if_pos e]
    simp -implicitDefEqProofs only [go_sem,zp hi,rl,ilt hk,gk,ri,yd,eq_true c1,yi,yf]
   by_cases c2 : (succ.length : Int) ≤ x
   ·have e : x ≤ zhv succ[i] k ∨ (succ.length : Int) ≤ x:=.inr c2
    have c2' : x ≥ (succ.length : Int):=c2
    rw [if_pos e]
    simp -implicitDefEqProofs only [go_sem,zp hi,rl,ilt hk,gk,ri,yd,c1,eq_true c2',yi,yf]
   have c2' : ¬ x ≥ (succ.length : Int):=c2
   by_cases k0 : k = 0
   ·subst k0
    have e : ¬ (x ≤ zhv succ[i] 0 ∨ (succ.length : Int) ≤ x):=by
     have : zhv succ[i] 0 = -1:=rfl
     omega
    have:=ih 1 vU vU vU vU vU vU vU vU vU vU vU (by omega) (by omega) (by rw [show (1 : Nat) = 0 + 1 from rfl,hnext]; omega)
    rw [show (1 : Nat) = 0 + 1 from rfl,hnext] at this
    have w0:=za hk hll
    have z0 : ¬ ((0 : Int) > 0):=by omega
    have hk' : (0 : Int) < (succ[i].length : Int):=by omega
    simp -implicitDefEqProofs only [go_sem] at this
    rw [if_neg e]
    simp -implicitDefEqProofs only [go_sem,yn,zp hi,rl,eq_true hk',gk,ri,yd,c1,c2',z0,yi,yf,w0]
    exact this
   ·obtain ⟨j,rfl⟩ : ∃ j,k = j + 1:=⟨k - 1,by omega⟩
    have hj : j < succ[i].length:=by omega
    have gj:=zp (r:=ri) hj
    have hlast : zhv succ[i] (j + 1) = succ[i][j]:=by
     unfold zhv
     rw [if_neg (by omega),y2,ye,yh hj]
     rfl
    have w1 : Go.IntKind.i64.wrap (((j + 1 : Nat) : Int) - 1) = (j : Int):=by
     rw [show ((j + 1 : Nat) : Int) - 1 = (j : Int) by omega,wrap_i64] <;> omega
    have z0 : ((j + 1 : Nat) : Int) > 0:=by omega
    by_cases c3 : x ≤ succ[i][j]
    ·have e : x ≤ zhv succ[i] (j + 1) ∨ (succ.length : Int) ≤ x:=.inl (by rw [hlast]; exact c3)
     rw [if_pos e]
     simp -implicitDefEqProofs only [go_sem,zp hi,rl,ilt hk,gk,gj,ri,yd,c1,c2',eq_true z0,w1,eq_true c3,yi,yf]
    ·have e : ¬ (x ≤ zhv succ[i] (j + 1) ∨ (succ.length : Int) ≤ x):=by rw [hlast]; omega
     have:=ih (j + 1 + 1) vU vU vU vU vU vU vU vU vU vU vU (by omega) (by omega) (by rw [hnext]; omega)
     rw [hnext] at this
     simp -implicitDefEqProofs only [go_sem] at this
     rw [if_neg e]
     simp -implicitDefEqProofs only [go_sem,zp hi,rl,ilt hk,gk,gj,ri,yd,c1,c2',eq_true z0,w1,c3,yi,yf,za hk hll,this]
theorem zB6 : ∀ (d k : Nat) (a2 a5 a6 a7 a8 a9 a10 a11 a12 a13 a14 a15 : V),succ.length - k = d → k ≤ succ.length →
  exec T zcu ⟨[vLs succ,.one (.ptr 0 0 0 0),a2,vI succ.length,vI k,a5,a6,a7,a8,a9,a10,a11,a12,a13,a14,a15],sM1,0,0⟩ =
   some (if (succ.drop k).all (fun l => rising l succ.length) = true then (.exit 0,⟨[vLs succ,.one (.ptr 0 0 0 0),vU,vI succ.length,vU,vU,vU,vU,vU,vU,vU,vU,vU,vU,vU,vU],sM1,0,0⟩)
    else (.ret,⟨[vU,.one (.ptr 0 0 0 0),vI 5,vU,vU,vU,vU,vU,vU,vU,vU,vU,vU,vU,vU,vU],sM1,0,0⟩)):=by
 intro d
 induction d with
 | zero =>
   intro k a2 a5 a6 a7 a8 a9 a10 a11 a12 a13 a14 a15 h1 h2
   have hk : k = succ.length:=by omega
   subst hk
   rw [xl zcu rfl,zd1]
   simp -implicitDefEqProofs only [go_sem,yr,yx,yak]
 | succ d ih =>
   intro k a2 a5 a6 a7 a8 a9 a10 a11 a12 a13 a14 a15 h1 h2
   have hk : k < succ.length:=by omega
   have hd : succ.drop k = succ[k] :: succ.drop (k + 1):=yl hk
   have h0:=fun a2 a6 a7 a8 a9 a10 a11 a12 a13 a14 a15 => zCb succ hn hl k hk succ[k].length 0 a2 a6 a7 a8 a9 a10 a11 a12 a13 a14 a15 (by omega) (by omega) (by simp [zhv])
   have hz : zhv succ[k] 0 = -1:=rfl
   simp only [yn,yB,hz] at h0
   have:=ih (k + 1) vU vU vU vU vU vU vU vU vU vU vU vU (by omega) (by omega)
   rw [xl zcu rfl,zd1,hd,y6,rising]
   simp -implicitDefEqProofs only [go_sem] at this
   cases c : zP succ.length (-1) succ[k]
   ·simp -implicitDefEqProofs only [go_sem,c] at h0
    simp -implicitDefEqProofs only [go_sem,ilt hk,h0]
   ·simp -implicitDefEqProofs only [go_sem,c] at h0
    simp -implicitDefEqProofs only [go_sem,ilt hk,h0,za hk (show succ.length ≤ 4294967296 by omega),this]
abbrev sM4 (out : List (List Int)) : zd:=[.cells 0 2 [[.f (.sl []),.f (.sl [])]],.tok 1 (out.map y0),.cells 0 1 (apT 1 0 out),.cells 0 2 [[.f (.sl (succ.map rl)),.own 2 0 0 succ.length]]]
theorem zB9 (i : Nat) (hi : i < succ.length) : ∀ (d k : Nat) (out : List (List Int)) (r : List Int) (a2 a4 a5 a9 a10 a11 a12 a13 a14 a15 : V),succ.length - k = d → k ≤ succ.length → out.length = succ.length → out[i]? = some r → r.length ≤ k →
  exec T zcl ⟨[vLs succ,.one (.ptr 0 0 0 0),a2,vI succ.length,a4,a5,.one (.ptr 3 0 0 0),vI i,vI k,a9,a10,a11,a12,a13,a14,a15],sM4 succ out,0,0⟩ =
   some (.exit 6,⟨[vLs succ,.one (.ptr 0 0 0 0),vU,vI succ.length,vU,vU,.one (.ptr 3 0 0 0),vI i,vU,vU,vU,vU,vU,vU,vU,vU],sM4 succ (out.set i (r ++ zhf i k (succ.drop k))),0,0⟩):=by
 intro d
 induction d with
 | zero =>
   intro k out r a2 a4 a5 a9 a10 a11 a12 a13 a14 a15 h1 h2 ho hr hrl
   have hk : k = succ.length:=by omega
   subst hk
   have hs : out.set i r = out:=by
    apply ym
    intro j
    by_cases c : i = j
    ·subst c; rw [yt (by omega),hr]
    ·rw [yA c]
   rw [xl zcl rfl,zef]
   simp -implicitDefEqProofs only [go_sem,sM4,yr,yx,zhf,yaa,hs]
 | succ d ih =>
   intro k out r a2 a4 a5 a9 a10 a11 a12 a13 a14 a15 h1 h2 ho hr hrl
   have hk : k < succ.length:=by omega
   have hd : succ.drop k = succ[k] :: succ.drop (k + 1):=yl hk
   have hH:=zkT succ[k] (i : Int) (hl _ (yv hk))
   rw [xl zcl rfl,zef,hd,zhf]
   by_cases c : (i : Int) ∈ succ[k]
   ·have hio : i < out.length:=by omega
    have hri : out[i] = r:=by
     rw [yh hio] at hr
     injection hr
    have hg:=zug 1 out 0 i hio
    have hs:=fun m => zyc 1 out 0 i m
    simp only [yY] at hg hs
    rw [hri] at hg
    have hf : (out.map y0)[i]? = some r.length:=by simp [hr]
    have hlim : r.length + 1 ≤ LIM:=by unfold LIM; omega
    have hin : ((i : Int) < (succ.length : Int)) = True:=by simp; omega
    have:=ih (k + 1) (out.set i (r ++ [(k : Int)])) (r ++ [(k : Int)]) vU vU vU vU vU vU vU vU vU vU (by omega) (by omega) (by simpa using ho) (by rw [yt hio]) (by simp; omega)
    have e1 : yam ri r ++ [[Fz.lit (Value.int .i64 (k : Int))]] = yam ri (r ++ [(k : Int)]):=by simp [ri]
    rw [List.set_set,yJ,yK] at this
    simp -implicitDefEqProofs only [go_sem,decide_eq_true c] at hH
    simp -implicitDefEqProofs only [go_sem,sM4,yal,yz,yw,yN,yY] at this
    simp -implicitDefEqProofs only [go_sem,sM4,ilt hk,zp hk,rl,hH,c,hg,hf,hlim,hin,e1,hs,yi,yf,yd,za hk (show succ.length ≤ 4294967296 by omega),yal,zkg,this]
   ·have:=ih (k + 1) out r vU vU vU vU vU vU vU vU vU vU (by omega) (by omega) ho hr (by omega)
    simp -implicitDefEqProofs only [go_sem,decide_eq_false c] at hH
    simp -implicitDefEqProofs only [go_sem,sM4] at this
    simp -implicitDefEqProofs only [go_sem,sM4,ilt hk,zp hk,rl,hH,c,yd,za hk (show succ.length ≤ 4294967296 by omega),this]
def zwA (k : Nat) : List (List Int):=(yL succ.length).map fun i => if i < k then zhf (i : Int) 0 succ else []
omit hn hl in
theorem zfC (k : Nat) : (zwA succ k).length = succ.length:=by simp [zwA]
omit hn hl in
theorem zlV (k i : Nat) (h : i < succ.length) : (zwA succ k)[i]? = some (if i < k then zhf (i : Int) 0 succ else []):=by simp [zwA,h]
omit hn hl in
theorem zsF : zwA succ 0 = yq succ.length []:=by
 apply ym
 intro j
 by_cases c : j < succ.length
 ·rw [zlV succ 0 j c]; simp [c]
 ·rw [yc (by rw [zfC]; omega),yc (by simp; omega)]
omit hn hl in
theorem zBA (k : Nat) (h : k < succ.length) : (zwA succ k).set k (zhf (k : Int) 0 succ) = zwA succ (k + 1):=by
 apply ym
 intro j
 by_cases c : j < succ.length
 ·rw [zlV succ (k + 1) j c]
  by_cases e : k = j
  ·subst e
   rw [yt (by rw [zfC]; exact h),if_pos (by omega)]
  ·rw [yA e,zlV succ k j c]
   by_cases f : j < k
   ·rw [if_pos f,if_pos (by omega)]
   ·rw [if_neg f,if_neg (by omega)]
 ·rw [yc (by rw [yH,zfC]; omega),yc (by rw [zfC]; omega)]
theorem zB0 : ∀ (d k : Nat) (a2 a4 a5 a8 a9 a10 a11 a12 a13 a14 a15 : V),succ.length - k = d → k ≤ succ.length →
  exec T zcg ⟨[vLs succ,.one (.ptr 0 0 0 0),a2,vI succ.length,a4,a5,.one (.ptr 3 0 0 0),vI k,a8,a9,a10,a11,a12,a13,a14,a15],sM4 succ (zwA succ k),0,0⟩ =
   some (.exit 4,⟨[vU,.one (.ptr 0 0 0 0),vU,vU,vU,vU,.one (.ptr 3 0 0 0),vU,vU,vU,vU,vU,vU,vU,vU,vU],sM4 succ (zwA succ succ.length),0,0⟩):=by
 intro d
 induction d with
 | zero =>
   intro k a2 a4 a5 a8 a9 a10 a11 a12 a13 a14 a15 h1 h2
   have hk : k = succ.length:=by omega
   subst hk
   rw [xl zcg rfl,zem]
   simp -implicitDefEqProofs only [go_sem,sM4,yr]
 | succ d ih =>
   intro k a2 a4 a5 a8 a9 a10 a11 a12 a13 a14 a15 h1 h2
   have hk : k < succ.length:=by omega
   have h0:=fun a2 a4 a5 a9 a10 a11 a12 a13 a14 a15 => zB9 succ hn hl k hk succ.length 0 (zwA succ k) [] a2 a4 a5 a9 a10 a11 a12 a13 a14 a15 (by omega) (by omega) (zfC succ k) (by rw [zlV succ k k hk,if_neg (by omega)]) (by simp)
   simp only [yn,yB,yab,zBA succ k hk] at h0
   have:=ih (k + 1) vU vU vU vU vU vU vU vU vU vU vU (by omega) (by omega)
   rw [xl zcg rfl,zem]
   simp -implicitDefEqProofs only [go_sem,sM4] at h0 this
   simp -implicitDefEqProofs only [go_sem,sM4,ilt hk,h0,za hk (show succ.length ≤ 4294967296 by omega),this]
end
theorem zpA : ∀ {a b : List Int},a.Pairwise (· < ·) → b.Pairwise (· < ·) → (∀ x,x ∈ a ↔ x ∈ b) → a = b
 | [],[],_,_,_ => rfl
 | [],y :: b,_,_,h => by have:=(h y).2 ya; simp at this
 | x :: a,[],_,_,h => by have:=(h x).1 ya; simp at this
 | x :: a,y :: b,ha,hb,h => by
   rw [yo] at ha hb
   have exy : x = y:=by
    have h1:=(h x).1 ya
    have h2:=(h y).2 ya
    rcases yg.1 h1 with e | e
    ·exact e
    ·rcases yg.1 h2 with e2 | e2
     ·exact e2.symm
     ·have:=hb.1 x e
      have:=ha.1 y e2
      omega
   subst exy
   rw [zpA ha.2 hb.2 fun z => ?_]
   constructor
   ·intro hz
    rcases yg.1 ((h z).1 (yb _ hz)) with e | e
    ·subst e
     have:=ha.1 z hz
     omega
    ·exact e
   ·intro hz
    rcases yg.1 ((h z).2 (yb _ hz)) with e | e
    ·subst e
     have:=hb.1 z hz
     omega
    ·exact e
theorem znd (i y : Int) : ∀ (r : List (List Int)) (k : Nat),y ∈ zhf i k r ↔ ∃ j l,r[j]? = some l ∧ y = ((k + j : Nat) : Int) ∧ i ∈ l
 | [],k => by simp [zhf]
 | l :: r,k => by
   rw [zhf]
   have ih:=znd i y r (k + 1)
   constructor
   ·intro h
    split at h
    ·rename_i c
     rcases yg.1 h with e | h
     ·exact ⟨0,l,rfl,by rw [e,yO],c⟩
     ·obtain ⟨j,q,h1,h2,h3⟩:=ih.1 h
      exact ⟨j + 1,q,by simpa using h1,by rw [h2]; congr 1; omega,h3⟩
    ·obtain ⟨j,q,h1,h2,h3⟩:=ih.1 h
     exact ⟨j + 1,q,by simpa using h1,by rw [h2]; congr 1; omega,h3⟩
   ·rintro ⟨j,q,h1,h2,h3⟩
    cases j with
    | zero =>
      simp only [yF,Option.some.injEq] at h1
      subst h1
      rw [if_pos h3]
      exact yg.2 (.inl (by rw [h2,yO]))
    | succ j =>
      have:=ih.2 ⟨j,q,by simpa using h1,by rw [h2]; congr 1; omega,h3⟩
      split
      ·exact yb _ this
      ·exact this
theorem zlY (i : Int) : ∀ (r : List (List Int)) (k : Nat),(zhf i k r).Pairwise (· < ·)
 | [],_ => by simp [zhf]
 | l :: r,k => by
   have ih:=zlY i r (k + 1)
   rw [zhf]
   split
   ·rw [yo]
    refine ⟨fun y hy => ?_,ih⟩
    obtain ⟨j,q,h1,h2,h3⟩:=(znd i y r (k + 1)).1 hy
    omega
   ·exact ih
theorem zlE {n : Int} : ∀ {l : List Int} {last : Int},zP n last l = true → l.Pairwise (· < ·)
 | [],_,_ => by simp
 | y :: r,last,h => by
   simp only [zP] at h
   split at h
   ·cases h
   ·rw [yo]
    exact ⟨fun x hx => (zoT h x hx).1,zlE h⟩
theorem znN (i : Int) : ∀ (l : List Int) (out : List (List Int)),(∀ x ∈ l,0 ≤ x ∧ x < (out.length : Int)) → l.Pairwise (· < ·) →
  (∀ (X : Nat),X < out.length → ∀ y ∈ out.getD X [],y < i ∨ (y = i ∧ (X : Int) ∉ l)) → (∀ (X : Nat),X < out.length → (out.getD X []).Pairwise (· < ·)) →
  ∀ (X : Nat),X < out.length → ((l.foldl (ztm i) out).getD X []).Pairwise (· < ·)
 | [],out,_,_,_,h => h
 | x :: l,out,hx,hl,h1,h2 => by
   rw [y9]
   have hx0:=hx x ya
   rw [yo] at hl
   have hnx : x ∉ l:=fun h => by have:=hl.1 x h; omega
   have:=znN i l (ztm i out x) (fun y hy => by rw [zfF]; exact hx y (yb _ hy)) hl.2 (fun X hX y hy => ?_) (fun X hX => ?_)
   ·rw [zfF] at this
    exact this
   ·rw [zfF] at hX
    rw [zrZ i out x X hx0.1 hX] at hy
    split at hy
    ·rename_i c
     rcases yu.1 hy with hy | hy
     ·rcases h1 X hX y hy with h | ⟨_,h⟩
      ·exact .inl h
      ·exact absurd (by rw [← c]; exact ya) h
     ·exact .inr ⟨yk.1 hy,by rw [← c]; exact hnx⟩
    ·rcases h1 X hX y hy with h | ⟨h,k⟩
     ·exact .inl h
     ·exact .inr ⟨h,fun hm => k (yb _ hm)⟩
   ·rw [zfF] at hX
    rw [zrZ i out x X hx0.1 hX]
    split
    ·rename_i c
     rw [List.pairwise_append]
     refine ⟨h2 X hX,by simp,fun a ha b hb => ?_⟩
     rw [yk.1 hb]
     rcases h1 X hX a ha with h | ⟨_,h⟩
     ·exact h
     ·exact absurd (by rw [← c]; exact ya) h
    ·exact h2 X hX
theorem zi5 (N : Nat) : ∀ (l : List (List Int)) (i : Nat) (out : List (List Int)),out.length = N → (∀ r ∈ l,(∀ x ∈ r,0 ≤ x ∧ x < (N : Int)) ∧ r.Pairwise (· < ·)) →
  (∀ (X : Nat),X < N → ∀ y ∈ out.getD X [],y < (i : Int)) → (∀ (X : Nat),X < N → (out.getD X []).Pairwise (· < ·)) →
  ∀ (X : Nat),X < N → ((za9 i l out).getD X []).Pairwise (· < ·)
 | [],_,_,_,_,_,h => h
 | r :: l,i,out,ho,hl,h1,h2 => by
   rw [za9]
   subst ho
   have hr:=hl r ya
   refine zi5 _ l (i + 1) _ (zf2 _ _ _) (fun q hq => hl q (yb _ hq)) (fun X hX y hy => ?_) (znN i r out hr.1 hr.2 (fun X hX y hy => .inl (h1 X hX y hy)) h2)
   rcases (zo6 (i : Int) X y r out (fun x hx => (hr.1 x hx).1) hX).1 hy with h | h
   ·have:=h1 X hX y h
    omega
   ·omega
theorem zwF {succ : List (List Int)} (h : zbk succ = true) : zwA succ succ.length = zM succ:=by
 obtain ⟨n1,n64,hr⟩:=zew h
 have hris : ∀ l ∈ succ,zP succ.length (-1) l = true:=fun l hl => by
  unfold zbk at h
  simp only [y5,yZ,decide_eq_false_iff_not,yP] at h
  have h3 : rising l succ.length = true:=by simpa using h.2.2 l hl
  exact h3
 apply ym
 intro j
 by_cases c : j < succ.length
 ·rw [zlV succ _ j c,if_pos c]
  have hlt : j < (zM succ).length:=by rw [zb5]; exact c
  rw [yh hlt]
  congr 1
  have e : (zM succ)[j] = (zM succ).getD j []:=by rw [ye,yh hlt]; rfl
  rw [e]
  have hs : ((zM succ).getD j []).Pairwise (· < ·):=zi5 succ.length succ 0 _ (by simp) (fun r hr' => ⟨hr r hr',zlE (hris r hr')⟩) (fun X hX y hy => by
   rw [ye,yp,if_pos hX] at hy
   simp at hy) (fun X hX => by
   rw [ye,yp,if_pos hX]
   simp) j c
  refine zpA (zlY _ _ _) hs fun y => ?_
  have hp:=zms hr (x:=(j : Int)) ⟨by omega,by omega⟩ y
  rw [yf] at hp
  rw [hp,znd]
  constructor
  ·rintro ⟨k,l,h1,h2,h3⟩
   have hk:=(yy.1 h1).1
   refine ⟨by omega,by omega,?_⟩
   rw [show y.toNat = k by omega,ye,h1]
   exact h3
  ·rintro ⟨h1,h2,h3⟩
   have hlt : y.toNat < succ.length:=by omega
   rw [ye,yh hlt] at h3
   exact ⟨y.toNat,succ[y.toNat],yh hlt,by omega,h3⟩
 ·rw [yc (by rw [zfC]; omega),yc (by rw [zb5]; omega)]
theorem zAG {succ : List (List Int)} (h1 : 1 ≤ succ.length) (h2 : succ.length ≤ 64) : zbk succ = succ.all fun l => rising l succ.length:=by
 unfold zbk
 rw [decide_eq_false (by omega),decide_eq_false (by omega),yai,yai]
 induction succ.length generalizing succ <;> rw [List.not_any_eq_all_not] <;> simp
theorem znz (succ : List (List Int)) (hs : zjv succ) : call T 129 [vLs succ] [] = some (zjf succ,[]):=by
 rw [ze (fn:=zaz) rfl]
 by_cases c1 : succ.length < 1
 ·have c1' : (succ.length : Int) = 0:=by omega
  simp -implicitDefEqProofs only [go_sem,zaz,zjf,zbk,c1,eq_true c1',yd]
 have c1' : ¬ (succ.length : Int) = 0:=by omega
 by_cases c2 : 64 < succ.length
 ·have c2' : (succ.length : Int) > 64:=by omega
  simp -implicitDefEqProofs only [go_sem,zaz,zjf,zbk,c1,c1',c2,eq_true c2',yd]
 have c2' : ¬ (succ.length : Int) > 64:=by omega
 have hmk:=zAG (succ:=succ) (by omega) (by omega)
 have h1:=fun a2 a5 a6 a7 a8 a9 a10 a11 a12 a13 a14 a15 => zB6 succ (by omega) hs.2 succ.length 0 a2 a5 a6 a7 a8 a9 a10 a11 a12 a13 a14 a15 (by omega) (by omega)
 simp only [yn,yB,← hmk] at h1
 cases c3 : zbk succ
 ·simp -implicitDefEqProofs only [go_sem,c3] at h1
  simp -implicitDefEqProofs only [go_sem,zaz,zjf,c3,c1',c2',yd,h1]
 ·have h3:=fun a2 a4 a5 a8 a9 a10 a11 a12 a13 a14 a15 => zB0 succ (by omega) hs.2 succ.length 0 a2 a4 a5 a8 a9 a10 a11 a12 a13 a14 a15 (by omega) (by omega)
  have hnil:=zCB 1 succ.length
  have hz : (zwA succ 0).map y0 = yq succ.length 0:=by rw [zsF,List.map_replicate]; rfl
  have hz2 : apT 1 0 (zwA succ 0) = apT 1 0 (yq succ.length []):=by rw [zsF]
  have hlim : (succ.length : Int) ≤ (LIM : Int):=by unfold LIM; omega
  have hfz : zaq ((apT 1 0 (zM succ)).take succ.length) = some ((zM succ).map rl):=by
   rw [yQ (by rw [zkg,zb5]; omega),zzZ]
  simp only [yn,zwF c3] at h3
  simp -implicitDefEqProofs only [go_sem,c3] at h1
  simp -implicitDefEqProofs only [go_sem,sM4,hz,hz2] at h3
  simp -implicitDefEqProofs only [go_sem,zaz,zjf,c3,c1',c2',yd,h1,hlim,yi,yf,hnil,h3,hfz]
end AC
namespace AC
open Go Go.A Go.A.Lex
def zmW (to : List Int) : Nat → Nat → List Int
 | _,0 => []
 | k,d + 1 => if (k : Int) ∈ to then (k : Int) :: zmW to (k + 1) d else zmW to (k + 1) d
theorem zo4 (to : List Int) (y : Int) : ∀ (d k : Nat),y ∈ zmW to k d ↔ y ∈ to ∧ (k : Int) ≤ y ∧ y < ((k + d : Nat) : Int)
 | 0,k => by simp [zmW]
 | d + 1,k => by
   have ih:=zo4 to y d (k + 1)
   rw [zmW]
   split
   ·rename_i c
    rw [yg,ih]
    constructor
    ·rintro (h | ⟨h1,h2,h3⟩)
     ·exact ⟨h ▸ c,by omega,by omega⟩
     ·exact ⟨h1,by omega,by omega⟩
    ·rintro ⟨h1,h2,h3⟩
     by_cases e : y = k
     ·exact .inl e
     ·exact .inr ⟨h1,by omega,by omega⟩
   ·rename_i c
    rw [ih]
    constructor
    ·rintro ⟨h1,h2,h3⟩
     exact ⟨h1,by omega,by omega⟩
    ·rintro ⟨h1,h2,h3⟩
     have e : y ≠ k:=fun e => c (e ▸ h1)
     exact ⟨h1,by omega,by omega⟩
theorem znh (to : List Int) : ∀ (d k : Nat),(zmW to k d).Pairwise (· < ·)
 | 0,_ => by simp [zmW]
 | d + 1,k => by
   have ih:=znh to d (k + 1)
   rw [zmW]
   split
   ·rw [yo]
    refine ⟨fun y hy => ?_,ih⟩
    have:=(zo4 to y d (k + 1)).1 hy
    omega
   ·exact ih
theorem zly : ∀ (l : List Int),l.Pairwise (· ≤ ·) → (zl l).Pairwise (· < ·) ∧ ∀ x,x ∈ zl l ↔ x ∈ l
 | [],_ => by simp [zl]
 | [x],_ => by simp [zl]
 | x :: y :: r,h => by
   rw [yo] at h
   obtain ⟨h1,h2⟩:=zly (y :: r) h.2
   rw [zl]
   split
   ·rename_i c
    subst c
    refine ⟨h1,fun z => ?_⟩
    rw [h2 z]
    simp
   ·rename_i c
    rw [yo]
    refine ⟨⟨fun z hz => ?_,h1⟩,fun z => ?_⟩
    ·have hz':=(h2 z).1 hz
     have hxy:=h.1 y ya
     have hxz:=h.1 z hz'
     rcases yg.1 hz' with e | e
     ·omega
     ·have:=(yo.1 h.2).1 z e
      omega
    ·rw [yg,h2 z,yg (a:=z) (b:=x)]
theorem zua (l : List Int) : (zbX l).Pairwise (· ≤ ·) ∧ ∀ x,x ∈ zbX l ↔ x ∈ l:=by
 have h1 : (zbX l).Pairwise (fun a b => decide (a ≤ b) = true):=List.pairwise_mergeSort (fun a b c h1 h2 => by simp only [decide_eq_true_eq] at *; omega) (fun a b => by simp only [yac,decide_eq_true_eq]; omega) l
 exact ⟨h1.imp fun h => by simpa using h,fun x => (List.mergeSort_perm l _).mem_iff⟩
theorem ztZ (l : List Int) : (ztg l).Pairwise (· < ·) ∧ ∀ x,x ∈ ztg l ↔ x ∈ l:=by
 obtain ⟨h1,h2⟩:=zua l
 obtain ⟨h3,h4⟩:=zly _ h1
 exact ⟨h3,fun x => (h4 x).trans (h2 x)⟩
theorem zwu {to : List Int} {n : Nat} (hn : 1 ≤ n) (h : to.any (zku n) = false) : zmW to 1 (n - 1) = ztg to:=by
 obtain ⟨h1,h2⟩:=ztZ to
 refine zpA (znh _ _ _) h1 fun x => ?_
 rw [zo4,h2 x]
 constructor
 ·exact fun h => h.1
 ·intro hx
  have:=yP.1 h x hx
  simp only [zku,yac,decide_eq_true_eq] at this
  exact ⟨hx,by omega,by omega⟩
section
variable (f : PFunc) (hf : okF f) (hn1 : 1 ≤ f.blocks.length) (hn : f.blocks.length ≤ 64)
abbrev s6 (k : Nat) (r : zd) : zd:=.cells 0 3 [zcW f] :: .cells 0 2 [[.f (.sl []),.f (.sl [])]] :: .tok 1 [k] :: r
abbrev oE (b : PBlock) : Ob:=.cells 0 3 [[.f (ei b.kind),.f (ei b.arg),.f (eI b.to)]]
include hf hn1 hn
theorem zEI (b : PBlock) (hb : okB b) (q i : Nat) (rows : List (List Fz)) : ∀ (d k : Nat) (a0 a3 a10 a11 a12 a13 a14 a15 a16 a17 : V),b.to.length - k = d → k ≤ b.to.length →
  exec T zdb ⟨[a0,.one (.ptr 0 0 0 0),.one (.ptr 1 0 0 0),a3,vI f.blocks.length,.one (.ap 2 0 rows),vI i,.one (.ptr 3 0 0 0),.one (.ap 4 0 []),vI k,a10,a11,a12,a13,a14,a15,a16,a17],s6 f q [oE b,.tok 1 [0]],0,0⟩ =
   some (if (b.to.drop k).any (zku f.blocks.length) = true then (.ret,⟨[vU,vU,.one (.ptr 1 0 0 0),vI 5,vU,vU,vU,vU,vU,vU,vU,vU,vU,vU,vU,vU,vU,vU],s6 f q [oE b,.tok 1 [0]],0,0⟩)
    else (.exit 2,⟨[vU,.one (.ptr 0 0 0 0),.one (.ptr 1 0 0 0),vU,vI f.blocks.length,.one (.ap 2 0 rows),vI i,.one (.ptr 3 0 0 0),.one (.ap 4 0 []),vU,vU,vU,vU,vU,vU,vU,vU,vU],s6 f q [oE b,.tok 1 [0]],0,0⟩)):=by
 intro d
 induction d with
 | zero =>
   intro k a0 a3 a10 a11 a12 a13 a14 a15 a16 a17 h1 h2
   have hk : k = b.to.length:=by omega
   subst hk
   rw [xl zdb rfl,zfc]
   simp -implicitDefEqProofs only [go_sem,s6,oE,yr,yd,yx,List.any_nil,ys]
 | succ d ih =>
   intro k a0 a3 a10 a11 a12 a13 a14 a15 a16 a17 h1 h2
   have hk : k < b.to.length:=by omega
   have hd : b.to.drop k = b.to[k] :: b.to.drop (k + 1):=yl hk
   have gk:=zp (r:=ri) hk
   obtain ⟨x,hx⟩ : ∃ x,x = b.to[k]:=⟨_,rfl⟩
   rw [← hx] at gk
   have:=ih (k + 1) vU vU vU vU vU vU vU vU vU vU (by omega) (by omega)
   rw [xl zdb rfl,zfc,hd,List.any_cons,← hx]
   by_cases c1 : x ≤ 0
   ·have e : zku f.blocks.length x = true:=by simp [zku]; omega
    simp -implicitDefEqProofs only [go_sem,s6,oE,ilt hk,gk,ri,yd,eq_true c1,e,yi,yf]
   ·by_cases c2 : x ≥ (f.blocks.length : Int)
    ·have e : zku f.blocks.length x = true:=by simp [zku]; omega
     simp -implicitDefEqProofs only [go_sem,s6,oE,ilt hk,gk,ri,yd,c1,eq_true c2,e,yi,yf]
    ·have e : zku f.blocks.length x = false:=by simp [zku]; omega
     simp -implicitDefEqProofs only [go_sem,s6,oE] at this
     simp -implicitDefEqProofs only [go_sem,s6,oE,ilt hk,gk,ri,yd,c1,c2,e,yi,yf,za hk hb.to,this]
theorem zEK (b : PBlock) (hb : okB b) (q i : Nat) (rows : List (List Fz)) : ∀ (d k : Nat) (acc : List Int) (a0 a3 a9 a11 a12 a13 a14 a15 a16 a17 : V),f.blocks.length - k = d → k ≤ f.blocks.length → acc.length ≤ k →
  exec T zde ⟨[a0,.one (.ptr 0 0 0 0),.one (.ptr 1 0 0 0),a3,vI f.blocks.length,.one (.ap 2 0 rows),vI i,.one (.ptr 3 0 0 0),.one (.ap 4 0 (acc.map ri)),a9,vI k,a11,a12,a13,a14,a15,a16,a17],s6 f q [oE b,.tok 1 [acc.length]],0,0⟩ =
   some (.exit 4,⟨[vU,.one (.ptr 0 0 0 0),.one (.ptr 1 0 0 0),vU,vI f.blocks.length,.one (.ap 2 0 rows),vI i,vU,.one (.ap 4 0 ((acc ++ zmW b.to k d).map ri)),vU,vU,vU,vU,vU,vU,vU,vU,vU],s6 f q [oE b,.tok 1 [(acc ++ zmW b.to k d).length]],0,0⟩):=by
 intro d
 induction d with
 | zero =>
   intro k acc a0 a3 a9 a11 a12 a13 a14 a15 a16 a17 h1 h2 ha
   have hk : k = f.blocks.length:=by omega
   subst hk
   rw [xl zde rfl,ze6]
   simp -implicitDefEqProofs only [go_sem,s6,oE,yr,zmW,yaa]
 | succ d ih =>
   intro k acc a0 a3 a9 a11 a12 a13 a14 a15 a16 a17 h1 h2 ha
   have hk : k < f.blocks.length:=by omega
   have hH:=zkT b.to (k : Int) hb.to
   rw [xl zde rfl,ze6,zmW]
   by_cases c : (k : Int) ∈ b.to
   ·have:=ih (k + 1) (acc ++ [(k : Int)]) vU vU vU vU vU vU vU vU vU vU (by omega) (by omega) (by simp; omega)
    have hlim : acc.length + 1 ≤ LIM:=by unfold LIM; omega
    have e1 : yam ri acc ++ [[Fz.lit (Value.int .i64 (k : Int))]] = yam ri (acc ++ [(k : Int)]):=by simp [ri]
    rw [yJ,yK] at this
    simp -implicitDefEqProofs only [go_sem,decide_eq_true c] at hH
    simp -implicitDefEqProofs only [go_sem,s6,oE,yz,yw,yN,yY] at this
    simp -implicitDefEqProofs only [go_sem,s6,oE,ilt hk,hH,c,hlim,e1,yd,za hk (show f.blocks.length ≤ 4294967296 by omega),yz,yw,this]
   ·have:=ih (k + 1) acc vU vU vU vU vU vU vU vU vU vU (by omega) (by omega) (by omega)
    simp -implicitDefEqProofs only [go_sem,decide_eq_false c] at hH
    simp -implicitDefEqProofs only [go_sem,s6,oE] at this
    simp -implicitDefEqProofs only [go_sem,s6,oE,ilt hk,hH,c,za hk (show f.blocks.length ≤ 4294967296 by omega),this]
theorem zEL : ∀ (d k : Nat),f.blocks.length - k = d → k ≤ f.blocks.length → ∃ r,∀ (a0 a3 a7 a8 a9 a10 a11 a12 a13 a14 a15 a16 a17 : V),
  exec T zZ ⟨[a0,.one (.ptr 0 0 0 0),.one (.ptr 1 0 0 0),a3,vI f.blocks.length,.one (.ap 2 0 (((zm f).take k).map rl)),vI k,a7,a8,a9,a10,a11,a12,a13,a14,a15,a16,a17],s6 f k [],0,0⟩ =
   some (if (f.blocks.drop k).all (zih f.blocks.length) = true then (.exit 0,⟨[vU,vU,.one (.ptr 1 0 0 0),vU,vU,.one (.ap 2 0 ((zm f).map rl)),vU,vU,vU,vU,vU,vU,vU,vU,vU,vU,vU,vU],s6 f f.blocks.length [],0,0⟩)
    else (.ret,⟨[vU,vU,.one (.ptr 1 0 0 0),vI 5,vU,vU,vU,vU,vU,vU,vU,vU,vU,vU,vU,vU,vU,vU],.cells 0 3 [zcW f] :: .cells 0 2 [[.f (.sl []),.f (.sl [])]] :: r,0,0⟩)):=by
 intro d
 induction d with
 | zero =>
   intro k h1 h2
   have hk : k = f.blocks.length:=by omega
   subst hk
   refine ⟨[],fun a0 a3 a7 a8 a9 a10 a11 a12 a13 a14 a15 a16 a17 => ?_⟩
   have e : (zm f).take f.blocks.length = zm f:=yQ (by simp [zm])
   rw [xl zZ rfl,zak]
   simp -implicitDefEqProofs only [go_sem,s6,yr,yx,yak,e]
 | succ d ih =>
   intro k h1 h2
   have hk : k < f.blocks.length:=by omega
   have hd : f.blocks.drop k = f.blocks[k] :: f.blocks.drop (k + 1):=yl hk
   obtain ⟨b,hb'⟩ : ∃ b,b = f.blocks[k]:=⟨_,rfl⟩
   have hb:=hf.block _ (yv hk)
   have gk:=zp (r:=rb) hk
   rw [← hb'] at hb gk
   obtain ⟨r,hr⟩:=ih (k + 1) (by omega) (by omega)
   have hsk : k < (zm f).length:=by simp [zm]; omega
   have hsl : (zm f).take (k + 1) = (zm f).take k ++ [ztg b.to]:=by
    rw [List.take_succ_eq_append_getElem hsk]
    simp [zm,hb']
   have htl : (((zm f).take k).map rl).length = k:=by simp [zm]; omega
   have hlim : k + 1 ≤ LIM:=by unfold LIM; omega
   rw [hd,y6,← hb']
   by_cases g0 : b.kind < 0
   ·have e : zih f.blocks.length b = false:=by
     have : zlU b.kind = -1:=by unfold zlU; rw [if_neg (by omega),if_neg (by omega),if_neg (by omega)]
     unfold zih
     rw [this,decide_eq_false (by omega)]
     rfl
    refine ⟨[.tok 1 [k],oE b],fun a0 a3 a7 a8 a9 a10 a11 a12 a13 a14 a15 a16 a17 => ?_⟩
    rw [xl zZ rfl,zak]
    simp -implicitDefEqProofs only [go_sem,s6,ilt hk,gk,rb,yd,yi,yf,eq_true g0,e]
   by_cases g3 : b.kind > 3
   ·have e : zih f.blocks.length b = false:=by
     have : zlU b.kind = -1:=by unfold zlU; rw [if_neg (by omega),if_neg (by omega),if_neg (by omega)]
     unfold zih
     rw [this,decide_eq_false (by omega)]
     rfl
    refine ⟨[.tok 1 [k],oE b],fun a0 a3 a7 a8 a9 a10 a11 a12 a13 a14 a15 a16 a17 => ?_⟩
    rw [xl zZ rfl,zak]
    simp -implicitDefEqProofs only [go_sem,s6,ilt hk,gk,rb,yd,yi,yf,g0,eq_true g3,e]
   have hgo : [ri 0,ri 1,ri 2,ri 0][b.kind.toNat]? = some (ri (zlU b.kind)):=by
    have : b.kind = 0 ∨ b.kind = 1 ∨ b.kind = 2 ∨ b.kind = 3:=by omega
    rcases this with h | h | h | h <;> rw [h] <;> rfl
   have g0' : 0 ≤ b.kind:=by omega
   by_cases gl : (b.to.length : Int) = zlU b.kind
   ·have hz:=fun a0 a3 a10 a11 a12 a13 a14 a15 a16 a17 => zEI f hf hn1 hn b hb k k (((zm f).take k).map rl) b.to.length 0 a0 a3 a10 a11 a12 a13 a14 a15 a16 a17 (by omega) (by omega)
    simp only [yn,yB] at hz
    cases ga : b.to.any (zku f.blocks.length)
    ·have e : zih f.blocks.length b = true:=by
      unfold zih
      rw [ga,decide_eq_true gl.symm]
      rfl
     have ho:=fun a0 a3 a9 a11 a12 a13 a14 a15 a16 a17 => zEK f hf hn1 hn b hb k k (((zm f).take k).map rl) (f.blocks.length - 1) 1 [] a0 a3 a9 a11 a12 a13 a14 a15 a16 a17 rfl (by omega) (by simp)
     simp only [yab,zwu hn1 ga,Int.natCast_one] at ho
     have e2 : ((zm f).take k).map rl ++ [[Fz.sl ((ztg b.to).map ri)]] = ((zm f).take (k + 1)).map rl:=by rw [hsl,yad]; rfl
     refine ⟨r,fun a0 a3 a7 a8 a9 a10 a11 a12 a13 a14 a15 a16 a17 => ?_⟩
     rw [xl zZ rfl,zak]
     simp -implicitDefEqProofs only [go_sem,s6,oE,ga,ys] at hz
     simp -implicitDefEqProofs only [go_sem,s6,oE,yN] at ho
     simp -implicitDefEqProofs only [go_sem,s6] at hr
     simp -implicitDefEqProofs only [ri] at hgo
     simp -implicitDefEqProofs only [go_sem,s6,ilt hk,gk,rb,yd,yi,yf,g0,g3,g0',hgo,gl,e,hz,ho,htl,hlim,e2,za hk (show f.blocks.length ≤ 4294967296 by omega),hr]
    ·have e : zih f.blocks.length b = false:=by
      unfold zih
      rw [ga]
      simp
     refine ⟨[.tok 1 [k],oE b,.tok 1 [0]],fun a0 a3 a7 a8 a9 a10 a11 a12 a13 a14 a15 a16 a17 => ?_⟩
     rw [xl zZ rfl,zak]
     simp -implicitDefEqProofs only [go_sem,s6,oE,ga] at hz
     simp -implicitDefEqProofs only [ri] at hgo
     simp -implicitDefEqProofs only [go_sem,s6,ilt hk,gk,rb,yd,yi,yf,g0,g3,g0',hgo,gl,e,hz]
   ·have e : zih f.blocks.length b = false:=by
     unfold zih
     rw [decide_eq_false (fun h => gl h.symm)]
     rfl
    refine ⟨[.tok 1 [k],oE b],fun a0 a3 a7 a8 a9 a10 a11 a12 a13 a14 a15 a16 a17 => ?_⟩
    rw [xl zZ rfl,zak]
    simp -implicitDefEqProofs only [ri] at hgo
    simp -implicitDefEqProofs only [go_sem,s6,ilt hk,gk,rb,yd,yi,yf,g0,g3,g0',hgo,gl,e]
end
theorem zqt (f : PFunc) (hf : okF f) : call T 77 [zhc f] [] = some (zgo f,[]):=by
 rw [ze (fn:=zas) rfl]
 by_cases c1 : f.blocks.length < 1
 ·have c1' : (f.blocks.length : Int) = 0:=by omega
  have e : zax f = false:=by
   have : (zm f).length = 0:=by rw [zm,yd]; omega
   unfold zax zbk
   rw [this]
   simp
  simp -implicitDefEqProofs only [go_sem,zas,zgo,e,eq_true c1',yd,ys]
 have c1' : ¬ (f.blocks.length : Int) = 0:=by omega
 by_cases c2 : 64 < f.blocks.length
 ·have c2' : (f.blocks.length : Int) > 64:=by omega
  have e : zax f = false:=by unfold zax; rw [decide_eq_true c2]; rfl
  simp -implicitDefEqProofs only [go_sem,zas,zgo,e,c1',eq_true c2',yd,ys]
 have c2' : ¬ (f.blocks.length : Int) > 64:=by omega
 obtain ⟨r,h⟩:=zEL f hf (by omega) (by omega) f.blocks.length 0 (by omega) (by omega)
 simp only [yn,yB,List.take_zero,List.map_nil] at h
 cases c3 : f.blocks.all (zih f.blocks.length)
 ·have e : zax f = false:=by unfold zax; rw [c3]; simp
  simp -implicitDefEqProofs only [go_sem,s6,c3,ys] at h
  simp -implicitDefEqProofs only [go_sem,zas,zgo,e,c1',c2',yd,ys,h]
 ·have hM:=znz (zm f) (zh6 hf)
  have e : zax f = zbk (zm f):=by unfold zax; rw [c3,decide_eq_false c2]; simp
  simp -implicitDefEqProofs only [go_sem,s6,c3] at h
  cases c4 : zbk (zm f)
  ·simp -implicitDefEqProofs only [go_sem,zjf,c4,ys] at hM
   simp -implicitDefEqProofs only [go_sem,zas,zgo,e,c4,c1',c2',yd,ys,h,hM]
  ·simp -implicitDefEqProofs only [go_sem,zjf,c4] at hM
   simp -implicitDefEqProofs only [go_sem,zas,zgo,e,c4,c1',c2',yd,h,hM]
end AC
namespace AC
open Go Go.A Go.A.Lex
def ofS (level : Int) (o : POp) : Bool :=
 !(decide (level < 2) && (decide (1 < o.lanes) || decide (20 < o.kind))) && (!(decide (level < 1) && decide (17 < o.kind)) && zgq o)
section
variable (f : PFunc) (hf : okF f) (level : Int) (x y z dd : C) (σ : zd) (hck : σ[1]? = some (zxA f level x y z dd)) (hσ : Ok σ)
include hck hσ
theorem zDm (o : POp) (ho : zue o) : call T 203 [.one (.ptr 1 0 0 0),vOp o] σ = some (vB (ofS level o),σ):=by
 rw [ze (fn:=zaf) rfl]
 have hm:=ziZ o ho.1 ho.2
 have hlow:=zgd hck
 simp -implicitDefEqProofs only [go_sem] at hm
 by_cases c1 : level < 2
 ·by_cases c2 : 1 < o.lanes
  ·simp -implicitDefEqProofs only [go_sem,zaf,hlow,c1,c2,ofS,Ok.at hσ]
  ·by_cases c3 : 20 < o.kind
   ·simp -implicitDefEqProofs only [go_sem,zaf,hlow,c1,c2,c3,ofS,Ok.at hσ]
   ·by_cases c4 : level < 1
    ·by_cases c5 : 17 < o.kind
     ·simp -implicitDefEqProofs only [go_sem,zaf,hlow,c1,c2,c3,c4,c5,ofS,Ok.at hσ]
     ·simp -implicitDefEqProofs only [go_sem,zaf,hlow,c1,c2,c3,c4,c5,ofS,Ok.at hσ,hm]
    ·simp -implicitDefEqProofs only [go_sem,zaf,hlow,c1,c2,c3,c4,ofS,Ok.at hσ,hm]
 ·have c4 : ¬ level < 1:=by omega
  simp -implicitDefEqProofs only [go_sem,zaf,hlow,c1,c4,ofS,Ok.at hσ,hm]
end
def zjB (level : Int) (b : PBlock) : Bool:=b.phis.all (fun p => zhF p.bits) && b.ops.all (ofS level)
def zeg (level : Int) : List PBlock → Option PBlock
 | [] => none
 | b :: r => if zjB level b = true then zeg level r else some b
def zfm (f : PFunc) (level : Int) : Bool:=zhF f.ret && (f.params.all zhF && f.blocks.all (zjB level))
theorem zi6 (level : Int) : ∀ l : List PBlock,(zeg level l).isNone = l.all (zjB level)
 | [] => rfl
 | b :: r => by
   simp only [zeg,y6]
   cases h : zjB level b
   ·simp
   ·simpa using zi6 level r
theorem zsU (b : Int) (σ : zd) : call T 198 [vI b] σ = some (vB (!zhF b),σ):=by
 rw [ze (fn:=zc7) rfl]
 simp -implicitDefEqProofs only [go_sem,zc7]
theorem zs9 (p : PPhi) (σ : zd) (hσ : Ok σ) : call T 200 [zE3 p] σ = some (vB (!zhF p.bits),σ):=by
 rw [ze (fn:=zdf) rfl]
 simp -implicitDefEqProofs only [go_sem,zdf,Ok.at hσ]
section
variable (f : PFunc) (hf : okF f) (level : Int) (x y z dd : C) (σ : zd) (hck : σ[1]? = some (zxA f level x y z dd)) (hσ : Ok σ)
include hck hσ
theorem zsK (o : POp) (ho : zue o) (r : zd) (hr : Obs.lt (σ.length + 1 + r.length) r = true) : call T 202 [vOp o,.one (.ptr σ.length 0 0 0)] (σ ++ .cells 0 1 [[.ptr 1 0 0 0]] :: r) = some (vB (!ofS level o),σ ++ .cells 0 1 [[.ptr 1 0 0 0]] :: r):=by
 rw [ze (fn:=zc5) rfl]
 have hσ1 : Ok (σ ++ .cells 0 1 [[.ptr 1 0 0 0]] :: r):=Ok.app hσ (by
  have h1:=zoJ (show σ.length + 1 + r.length ≤ σ.length + (r.length + 1) by omega) r hr
  have h2:=zh1 hck (r.length + 1)
  simp -implicitDefEqProofs only [go_sem,h1,h2])
 have hσ2 : Ok (σ ++ .cells 0 1 [[.ptr 1 0 0 0]] :: r ++ [.cells 0 6 [cOp o]]):=Ok.app hσ1 (by simp -implicitDefEqProofs only [go_sem])
 have hc:=zDm f level x y z dd (σ ++ .cells 0 1 [[.ptr 1 0 0 0]] :: r ++ [.cells 0 6 [cOp o]]) (by rw [yJ]; exact zgd hck _) hσ2 o ho
 generalize hτ : σ ++ .cells 0 1 [[.ptr 1 0 0 0]] :: r = τ at *
 have hg : τ[σ.length]? = some (.cells 0 1 [[.ptr 1 0 0 0]]):=by rw [← hτ]; simp
 have hg2:=zgd hg
 simp -implicitDefEqProofs only [go_sem] at hc
 simp -implicitDefEqProofs only [go_sem,zc5,hg2,hc,Ok.at hσ1]
theorem zBV (hf : okF f) : ∀ (d k : Nat) (a0 a2 a3 a4 a5 a9 a10 : V),f.blocks.length - k = d → k ≤ f.blocks.length →
  exec T zbK ⟨[a0,.one (.ptr σ.length 0 0 0),a2,a3,a4,a5,vL (f.blocks.map rb),vI f.blocks.length,vI k,a9,a10],σ ++ [.cells 0 1 [[.ptr 1 0 0 0]]],σ.length,σ.length⟩ =
   some (match zeg level (f.blocks.drop k) with
    | none => (.exit 0,⟨[vU,vU,vU,vU,vU,vU,vU,vU,vU,vU,vU],σ ++ [.cells 0 1 [[.ptr 1 0 0 0]]],σ.length,σ.length⟩)
    | some b => (.ret,⟨[vU,vU,vI 6,vU,vU,vU,vU,vU,vU,vU,vU],σ ++ [.cells 0 1 [[.ptr 1 0 0 0]],.cells 0 5 [zq b]],σ.length,σ.length⟩)):=by
 intro d
 induction d with
 | zero =>
   intro k a0 a2 a3 a4 a5 a9 a10 h1 h2
   have hk : k = f.blocks.length:=by omega
   subst hk
   rw [xl zbK rfl,zdJ]
   simp -implicitDefEqProofs only [go_sem,yr,yx,zeg]
 | succ d ih =>
   intro k a0 a2 a3 a4 a5 a9 a10 h1 h2
   have hk : k < f.blocks.length:=by omega
   have hd : f.blocks.drop k = f.blocks[k] :: f.blocks.drop (k + 1):=yl hk
   have hb:=hf.block _ (yv hk)
   have hlow:=zgd hck
   have hσ1 : Ok (σ ++ [.cells 0 1 [[.ptr 1 0 0 0]],.cells 0 5 [zq f.blocks[k]]]):=Ok.app hσ (by
    have h2:=zh1 hck 2
    simp -implicitDefEqProofs only [go_sem,h2])
   have hp:=zjF f.blocks[k].phis (fun p => !zhF p.bits) 200 [] [] (σ ++ [.cells 0 1 [[.ptr 1 0 0 0]],.cells 0 5 [zq f.blocks[k]]]) hb.phis (fun p _ => zs9 p _ hσ1)
   have ho:=zky f.blocks[k].ops (fun o => !ofS level o) 202 [] [.ptr σ.length 0 0 0] (σ ++ [.cells 0 1 [[.ptr 1 0 0 0]],.cells 0 5 [zq f.blocks[k]]]) hb.ops (fun o ho => by
    have:=zsK f level x y z dd σ hck hσ o (hb.op o ho) [.cells 0 5 [zq f.blocks[k]]] (by simp -implicitDefEqProofs only [go_sem])
    exact this)
   have hap : (f.blocks[k].phis.any fun p => !zhF p.bits) = !f.blocks[k].phis.all (fun p => zhF p.bits):=by rw [← zoo,y8]
   have hao : (f.blocks[k].ops.any fun p => !ofS level p) = !f.blocks[k].ops.all (ofS level):=by rw [← zoo,y8]
   rw [hap] at hp
   rw [hao] at ho
   rw [xl zbK rfl,zdJ,hd,zeg]
   cases e1 : f.blocks[k].phis.all (fun p => zhF p.bits)
   ·simp -implicitDefEqProofs only [go_sem,e1] at hp
    simp -implicitDefEqProofs only [go_sem,ilt hk,zp hk,rb,hp,zjB,e1]
   ·cases e2 : f.blocks[k].ops.all (ofS level)
    ·simp -implicitDefEqProofs only [go_sem,e1,e2] at hp ho
     simp -implicitDefEqProofs only [go_sem,ilt hk,zp hk,rb,hp,ho,zjB,e1,e2]
    ·have:=ih (k + 1) vU vU vU vU vU vU vU (by omega) (by omega)
     simp -implicitDefEqProofs only [go_sem,e1,e2] at hp ho this
     simp -implicitDefEqProofs only [go_sem,ilt hk,zp hk,rb,hp,ho,zjB,e1,e2,za hk hf.blocks,Ok.up hσ,zh1 hck,this]
theorem zxo (hf : okF f) : call T 160 [.one (.ptr 1 0 0 0)] σ = some (vI (if zfm f level = true then 0 else 6),σ):=by
 rw [ze (fn:=zan) rfl]
 have hlow:=zgd hck
 have hap : (f.params.any fun p => !zhF p) = !f.params.all zhF:=by rw [← zoo,y8]
 have hp:=zaQ f.params (fun p => !zhF p) 198 [] [] (σ ++ [.cells 0 1 [[.ptr 1 0 0 0]]]) hf.params (fun p _ => zsU p _)
 rw [hap] at hp
 have h:=fun a0 a2 a3 a4 a5 a9 a10 => zBV f level x y z dd σ hck hσ hf f.blocks.length 0 a0 a2 a3 a4 a5 a9 a10 (by omega) (by omega)
 simp only [yB,yn] at h
 have ha:=zi6 level f.blocks
 cases e1 : zhF f.ret
 ·simp -implicitDefEqProofs only [go_sem,zan,hlow,e1,zfm,Ok.at hσ]
 cases e2 : f.params.all zhF
 ·simp -implicitDefEqProofs only [go_sem,e2] at hp
  simp -implicitDefEqProofs only [go_sem,zan,hlow,e1,e2,hp,zfm,Ok.at hσ]
 cases e3 : zeg level f.blocks with
 | none =>
   rw [e3] at ha
   simp only [yS] at ha
   simp -implicitDefEqProofs only [go_sem,e2,e3] at hp h
   simp -implicitDefEqProofs only [go_sem,zan,hlow,e1,e2,hp,h,zfm,← ha,Ok.at hσ]
 | some b =>
   rw [e3] at ha
   simp only [yT] at ha
   simp -implicitDefEqProofs only [go_sem,e2,e3] at hp h
   simp -implicitDefEqProofs only [go_sem,zan,hlow,e1,e2,hp,h,zfm,← ha,Ok.at hσ]
end
end AC
namespace AC
open Go Go.A Go.A.Lex
abbrev O0 (f : PFunc) : Ob:=.cells 0 3 [zcW f]
abbrev cM (g : Nat) : C:=.fn g [.ptr 1 0 0 0] []
abbrev O2 : Ob:=.cells 0 1 [[cM 159],[cM 160],[cM 161],[cM 162],[cM 163]]
def zhP (pi : List Int) (p : PPhi) : Bool:=decide (p.src = pi) && decide (p.args.length = p.src.length)
def zeB (b : PBlock) : Bool:=!((decide (b.kind = 1) || decide (b.kind = 3)) && !decide (b.arg = 0))
def zqR (pred : List (List Int)) (tree : List Int) (i : Nat) (b : PBlock) : Bool:=zkr tree i i && (b.phis.all (zhP (pred.getD i [])) && zeB b)
def zEu (pred : List (List Int)) (tree : List Int) (i : Nat) (b : PBlock) : Option (List Ob) :=
 if zkr tree i i = false then some [.cells 0 5 [zq b]] else
 match b.phis.find? fun p => !zhP (pred.getD i []) p with
 | some p => some [.cells 0 5 [zq b],.cells 0 4 [zuO p]]
 | none => if zeB b = false then some [.cells 0 5 [zq b]] else none
def zgM (pred : List (List Int)) (tree : List Int) : Nat → List PBlock → Option (List Ob)
 | _,[] => none
 | i,b :: r => match zEu pred tree i b with
   | some G => some G
   | none => zgM pred tree (i + 1) r
theorem zxW (pred : List (List Int)) (tree : List Int) (i : Nat) (b : PBlock) : (zEu pred tree i b).isNone = zqR pred tree i b:=by
 unfold zEu zqR
 cases h1 : zkr tree i i
 ·simp
 ·simp only [Bool.true_eq_false,if_false,yaj]
  cases h2 : b.phis.find? fun p => !zhP (pred.getD i []) p with
  | some p =>
    rw [show b.phis.all (zhP (pred.getD i [])) = false from zeT h2]
    rfl
  | none =>
    rw [zeY h2]
    cases h3 : zeB b <;> simp
def zd4 (pred : List (List Int)) (tree : List Int) : Nat → List PBlock → Bool
 | _,[] => true
 | i,b :: r => zqR pred tree i b && zd4 pred tree (i + 1) r
theorem zkJ (pred : List (List Int)) (tree : List Int) : ∀ (l : List PBlock) (i : Nat),(zgM pred tree i l).isNone = zd4 pred tree i l
 | [],_ => rfl
 | b :: r,i => by
   have h:=zxW pred tree i b
   simp only [zgM,zd4]
   cases e : zEu pred tree i b with
   | some G =>
     rw [e] at h
     simp only [yT] at h
     simp [← h]
   | none =>
     rw [e] at h
     simp only [yS] at h
     rw [← h,yaj]
     exact zkJ pred tree r (i + 1)
section
variable (f : PFunc) (hf : okF f) (level : Int) (dd : C) (hdd : dd = .f (.lit (.map none))) (pred : List (List Int)) (hpl : pred.length = f.blocks.length) (hpp : ∀ l ∈ pred,l.length ≤ 4294967296) (tree : List Int) (htl : tree.length ≤ 4294967296) (x y : C) (hx : ∃ a,x = .f a) (hy : ∃ a,y = .f a)
abbrev znR (f : PFunc) (level : Int) (pred : List (List Int)) (tree : List Int) : zd:=[O0 f,zxA f level (.f (.sl ((zm f).map rl))) (.f (.sl (pred.map rl))) (.f (eI tree)) (.f (.lit (.map none))),O2,.cells 0 2 [[.f (.sl ((zm f).map rl)),.f (.sl (pred.map rl))]]]
include hf hpl hpp htl
theorem zA9 (b : PBlock) (hb : okB b) (i : Nat) (hi : i < f.blocks.length) : ∀ (d k : Nat) (a1 a3 a6 a7 a11 a12 a16 a17 a18 : V),b.phis.length - k = d → k ≤ b.phis.length →
  exec T zbL ⟨[.one (.ptr 1 0 0 0),a1,.one (.ptr 3 0 0 0),a3,vI i,.one (.ptr 4 0 0 0),a6,a7,vL (f.blocks.map rb),vI f.blocks.length,vI i,a11,a12,vL (b.phis.map rp),vI b.phis.length,vI k,a16,a17,a18],znR f level pred tree ++ [.cells 0 5 [zq b]],3,3⟩ =
   some (match (b.phis.drop k).find? (fun p => !zhP (pred.getD i []) p) with
    | none => (.exit 2,⟨[.one (.ptr 1 0 0 0),vU,.one (.ptr 3 0 0 0),vU,vU,.one (.ptr 4 0 0 0),vU,vU,vL (f.blocks.map rb),vI f.blocks.length,vI i,vU,vU,vU,vU,vU,vU,vU,vU],znR f level pred tree ++ [.cells 0 5 [zq b]],3,3⟩)
    | some p => (.ret,⟨[vU,vI 5,vU,vU,vU,vU,vU,vU,vU,vU,vU,vU,vU,vU,vU,vU,vU,vU,vU],znR f level pred tree ++ [.cells 0 5 [zq b],.cells 0 4 [zuO p]],3,3⟩)):=by
 intro d
 induction d with
 | zero =>
   intro k a1 a3 a6 a7 a11 a12 a16 a17 a18 h1 h2
   have hk : k = b.phis.length:=by omega
   subst hk
   rw [xl zbL rfl,zdy]
   simp -implicitDefEqProofs only [go_sem,znR,yr,yx,List.find?_nil]
 | succ d ih =>
   intro k a1 a3 a6 a7 a11 a12 a16 a17 a18 h1 h2
   have hk : k < b.phis.length:=by omega
   have hd : b.phis.drop k = b.phis[k] :: b.phis.drop (k + 1):=yl hk
   have hi2 : i < pred.length:=by omega
   have hg : pred.getD i [] = pred[i]:=by simp [hi2]
   have he:=zkA b.phis[k].src pred[i] [] (hb.phi _ (yv hk)).1
   rw [xl zbL rfl,zdy,hd,List.find?_cons,hg]
   rw [hg] at ih
   by_cases c1 : b.phis[k].src = pred[i]
   ·by_cases c2 : b.phis[k].args.length = b.phis[k].src.length
    ·have c2' : ((b.phis[k].args.length : Int) = (b.phis[k].src.length : Int)) = True:=by simp [c2]
     have:=ih (k + 1) vU vU vU vU vU vU vU vU vU (by omega) (by omega)
     simp -implicitDefEqProofs only [go_sem,znR,eq_true c1] at he this
     simp -implicitDefEqProofs only [go_sem,znR,ilt hk,zp hk,zp hi2,rp,rl,he,eq_true c1,c2',eq_true c2,zhP,za hk hb.phis,this]
    ·have c2' : ¬ (b.phis[k].args.length : Int) = (b.phis[k].src.length : Int):=by omega
     simp -implicitDefEqProofs only [go_sem,znR,eq_true c1] at he
     simp -implicitDefEqProofs only [go_sem,znR,ilt hk,zp hk,zp hi2,rp,rl,he,eq_true c1,c2',c2,zhP]
   ·simp -implicitDefEqProofs only [go_sem,znR,c1] at he
    simp -implicitDefEqProofs only [go_sem,znR,ilt hk,zp hk,zp hi2,rp,rl,he,c1,zhP]
theorem zAU : ∀ (d k : Nat) (a1 a3 a4 a5 a6 a7 a11 a12 a13 a14 a15 a16 a17 a18 : V),f.blocks.length - k = d → k ≤ f.blocks.length →
  exec T zbs ⟨[.one (.ptr 1 0 0 0),a1,.one (.ptr 3 0 0 0),a3,a4,a5,a6,a7,vL (f.blocks.map rb),vI f.blocks.length,vI k,a11,a12,a13,a14,a15,a16,a17,a18],znR f level pred tree,3,3⟩ =
   some (match zgM pred tree k (f.blocks.drop k) with
    | none => (.exit 0,⟨[vU,vU,vU,vU,vU,vU,vU,vU,vU,vU,vU,vU,vU,vU,vU,vU,vU,vU,vU],znR f level pred tree,3,3⟩)
    | some G => (.ret,⟨[vU,vI 5,vU,vU,vU,vU,vU,vU,vU,vU,vU,vU,vU,vU,vU,vU,vU,vU,vU],znR f level pred tree ++ G,3,3⟩)):=by
 intro d
 induction d with
 | zero =>
   intro k a1 a3 a4 a5 a6 a7 a11 a12 a13 a14 a15 a16 a17 a18 h1 h2
   have hk : k = f.blocks.length:=by omega
   subst hk
   rw [xl zbs rfl,zdu]
   simp -implicitDefEqProofs only [go_sem,znR,yr,yx,zgM]
 | succ d ih =>
   intro k a1 a3 a4 a5 a6 a7 a11 a12 a13 a14 a15 a16 a17 a18 h1 h2
   have hk : k < f.blocks.length:=by omega
   have hd : f.blocks.drop k = f.blocks[k] :: f.blocks.drop (k + 1):=yl hk
   have hb:=hf.block _ (yv hk)
   have ho:=zov tree k k htl
   have h0:=fun a1 a3 a6 a7 a11 a12 a16 a17 a18 => zA9 f hf level pred hpl hpp tree htl f.blocks[k] hb k hk f.blocks[k].phis.length 0 a1 a3 a6 a7 a11 a12 a16 a17 a18 (by omega) (by omega)
   simp only [yB,yn] at h0
   rw [xl zbs rfl,zdu,hd,zgM,zEu]
   cases e1 : zkr tree k k
   ·simp -implicitDefEqProofs only [go_sem,e1] at ho
    simp -implicitDefEqProofs only [go_sem,znR,ilt hk,zp hk,rb,ho]
   ·cases e2 : f.blocks[k].phis.find? (fun p => !zhP (pred.getD k []) p) with
    | some p =>
      simp -implicitDefEqProofs only [go_sem,znR,e1,e2] at ho h0
      simp -implicitDefEqProofs only [go_sem,znR,ilt hk,zp hk,rb,ho,h0]
    | none =>
      have:=ih (k + 1) vU vU vU vU vU vU vU vU vU vU vU vU vU vU (by omega) (by omega)
      simp -implicitDefEqProofs only [go_sem,znR,e1,e2] at ho h0 this
      by_cases k1 : f.blocks[k].kind = 1
      ·by_cases k3 : f.blocks[k].arg = 0
       ·simp -implicitDefEqProofs only [go_sem,znR,ilt hk,zp hk,rb,ho,h0,zeB,eq_true k1,eq_true k3,za hk hf.blocks,this]
       ·simp -implicitDefEqProofs only [go_sem,znR,ilt hk,zp hk,rb,ho,h0,zeB,eq_true k1,k3]
      ·by_cases k2 : f.blocks[k].kind = 3
       ·by_cases k3 : f.blocks[k].arg = 0
        ·simp -implicitDefEqProofs only [go_sem,znR,ilt hk,zp hk,rb,ho,h0,zeB,k1,eq_true k2,eq_true k3,za hk hf.blocks,this]
        ·simp -implicitDefEqProofs only [go_sem,znR,ilt hk,zp hk,rb,ho,h0,zeB,k1,eq_true k2,k3]
       ·simp -implicitDefEqProofs only [go_sem,znR,ilt hk,zp hk,rb,ho,h0,zeB,k1,k2,za hk hf.blocks,this]
end
theorem zFT (n : Nat) : (n + 1 + 1 + 1 + 1 ≤ 3) = False:=by simp
theorem zpW (f : PFunc) (hf : okF f) (level : Int) (hg : zax f = false) : call T 159 [.one (.ptr 1 0 0 0)] [O0 f,zxA f level (.f (.sl [])) (.f (.sl [])) (.f (.sl [])) (.f (.lit (.map none))),O2] = some (vI 5,[O0 f,zxA f level (.f (.sl [])) (.f (.sl [])) (.f (.sl [])) (.f (.lit (.map none))),O2]):=by
 rw [ze (fn:=zao) rfl]
 have h:=zlZ f hf
 simp -implicitDefEqProofs only [go_sem,zgo,hg] at h
 simp -implicitDefEqProofs only [go_sem,zao,h]
def zgY (f : PFunc) (tree : List Int) : Bool:=zax f && zd4 (zM (zm f)) tree 0 f.blocks
theorem zjm (succ : List (List Int)) (hs : zjv succ) (ht : (succ.map y0).sum ≤ 4294967296) : ∀ l ∈ zM succ,l.length ≤ 4294967296:=by
 have h : ∀ (l : List (List Int)) (i : Nat) (out : List (List Int)) (B : Nat),(∀ y ∈ out,y.length ≤ B) → ∀ y ∈ za9 i l out,y.length ≤ B + (l.map y0).sum:=by
  intro l
  induction l with
  | nil => intro i out B h y hy; exact h y hy
  | cons x r ih =>
    intro i out B h y hy
    have:=ih (i + 1) (x.foldl (ztm i) out) (B + x.length) (zq1 _ _ _ _ h) y hy
    simp only [yU,yV]
    omega
 intro l hl
 have:=h succ 0 (yq succ.length []) 0 (fun y hy => by rw [(List.mem_replicate.1 hy).2]; simp) l hl
 omega
theorem zfi {f : PFunc} (h : zax f = true) : zbk (zm f) = true:=by
 simp only [zax,Bool.and_eq_true] at h
 exact h.2.2
theorem zr8 (f : PFunc) (hf : okF f) (level : Int) (hg : zax f = true) (tree : List Int) (htl : tree.length ≤ 4294967296)
  (hT : call T 195 [.agg [.f (.sl ((zm f).map rl)),.f (.sl ((zM (zm f)).map rl))],vI 0] [] = some (vIs tree,[])) :
  call T 159 [.one (.ptr 1 0 0 0)] [O0 f,zxA f level (.f (.sl [])) (.f (.sl [])) (.f (.sl [])) (.f (.lit (.map none))),O2] =
   some (vI (if zd4 (zM (zm f)) tree 0 f.blocks = true then 0 else 5),[O0 f,zxA f level (.f (.sl ((zm f).map rl))) (.f (.sl ((zM (zm f)).map rl))) (.f (eI tree)) (.f (.lit (.map none))),O2]):=by
 rw [ze (fn:=zao) rfl]
 have h:=zlZ f hf
 have hl:=fun a1 a3 a4 a5 a6 a7 a11 a12 a13 a14 a15 a16 a17 a18 => zAU f hf level (zM (zm f)) (by rw [zb5]; simp [zm]) (zjm _ (zh6 hf) (zgA (zfi hg))) tree htl f.blocks.length 0 a1 a3 a4 a5 a6 a7 a11 a12 a13 a14 a15 a16 a17 a18 (by omega) (by omega)
 simp only [yB,yn] at hl
 have hn:=zkJ (zM (zm f)) tree f.blocks 0
 simp -implicitDefEqProofs only [go_sem,zgo,hg] at h hT
 cases e : zgM (zM (zm f)) tree 0 f.blocks with
 | none =>
   rw [e] at hn
   simp only [yS] at hn
   simp -implicitDefEqProofs only [go_sem,znR,e] at hl
   simp -implicitDefEqProofs only [go_sem,zao,h,hT,hl,← hn]
 | some G =>
   rw [e] at hn
   simp only [yT] at hn
   simp -implicitDefEqProofs only [go_sem,znR,e] at hl
   simp -implicitDefEqProofs only [go_sem,zao,h,hT,hl,← hn,zFT]
end AC
namespace AC
open Go Go.A Go.A.Lex
section
variable (succ pred : List (List Int)) (hn : succ.length ≤ 64) (hp : pred.length ≤ 64) (hl : ∀ l ∈ succ,l.length ≤ 4294967296) (hlp : ∀ l ∈ pred,l.length ≤ 4294967296)
abbrev s62 : zd:=[.cells 0 2 [[.f (.sl (succ.map rl)),.f (.sl (pred.map rl))]],.cells 0 2 [[.f (.sl (succ.map rl)),.f (.sl (pred.map rl))]]]
include hn hp hl hlp
theorem zBE : ∀ (d k : Nat) (a0 a1 a4 a6 a7 a8 a9 a10 a11 : V),succ.length - k = d → k ≤ succ.length →
  exec T zcv ⟨[a0,a1,.one (.ptr 0 0 0 0),.one (.ptr 1 0 0 0),a4,vI k,a6,a7,a8,a9,a10,a11],s62 succ pred,0,0⟩ = some (.exit 0,⟨[vU,vU,.one (.ptr 0 0 0 0),.one (.ptr 1 0 0 0),vU,vU,vU,vU,vU,vU,vU,vU],s62 succ pred,0,0⟩):=by
 intro d
 induction d with
 | zero =>
   intro k a0 a1 a4 a6 a7 a8 a9 a10 a11 h1 h2
   have hk : k = succ.length:=by omega
   subst hk
   rw [xl zcv rfl,zen]
   simp -implicitDefEqProofs only [go_sem,s62,yr,yd]
 | succ d ih =>
   intro k a0 a1 a4 a6 a7 a8 a9 a10 a11 h1 h2
   have hk : k < succ.length:=by omega
   have hI:=zjQ succ[k] succ[k] (hl _ (yv hk))
   have:=ih (k + 1) vU vU vU vU vU vU vU vU vU (by omega) (by omega)
   rw [xl zcv rfl,zen]
   simp -implicitDefEqProofs only [go_sem] at hI
   simp -implicitDefEqProofs only [go_sem,s62] at this
   simp -implicitDefEqProofs only [go_sem,s62,ilt hk,zp hk,rl,yd,hI,za hk (show succ.length ≤ 4294967296 by omega),this]
theorem zBR : ∀ (d k : Nat) (a0 a1 a4 a5 a7 a8 a9 a10 a11 : V),pred.length - k = d → k ≤ pred.length →
  exec T zcm ⟨[a0,a1,.one (.ptr 0 0 0 0),.one (.ptr 1 0 0 0),a4,a5,vI k,a7,a8,a9,a10,a11],s62 succ pred,0,0⟩ = some (.exit 2,⟨[vU,vU,vU,vU,vU,vU,vU,vU,vU,vU,vU,vU],s62 succ pred,0,0⟩):=by
 intro d
 induction d with
 | zero =>
   intro k a0 a1 a4 a5 a7 a8 a9 a10 a11 h1 h2
   have hk : k = pred.length:=by omega
   subst hk
   rw [xl zcm rfl,zel]
   simp -implicitDefEqProofs only [go_sem,s62,yr,yd]
 | succ d ih =>
   intro k a0 a1 a4 a5 a7 a8 a9 a10 a11 h1 h2
   have hk : k < pred.length:=by omega
   have hI:=zjQ pred[k] pred[k] (hlp _ (yv hk))
   have:=ih (k + 1) vU vU vU vU vU vU vU vU vU (by omega) (by omega)
   rw [xl zcm rfl,zel]
   simp -implicitDefEqProofs only [go_sem] at hI
   simp -implicitDefEqProofs only [go_sem,s62] at this
   simp -implicitDefEqProofs only [go_sem,s62,ilt hk,zp hk,rl,yd,hI,za hk (show pred.length ≤ 4294967296 by omega),this]
theorem zth : call T 173 [.agg [.f (.sl (succ.map rl)),.f (.sl (pred.map rl))],.agg [.f (.sl (succ.map rl)),.f (.sl (pred.map rl))]] [] = some (vB true,[]):=by
 rw [ze (fn:=zeE) rfl]
 have h0:=fun a0 a1 a4 a6 a7 a8 a9 a10 a11 => zBE succ pred hn hp hl hlp succ.length 0 a0 a1 a4 a6 a7 a8 a9 a10 a11 (by omega) (by omega)
 have h1:=fun a0 a1 a4 a5 a7 a8 a9 a10 a11 => zBR succ pred hn hp hl hlp pred.length 0 a0 a1 a4 a5 a7 a8 a9 a10 a11 (by omega) (by omega)
 simp only [yn] at h0 h1
 simp -implicitDefEqProofs only [go_sem,s62] at h0 h1
 simp -implicitDefEqProofs only [go_sem,zeE,yd,h0,h1]
end
theorem zyR (succ : List (List Int)) (hs : zjv succ) (hm : zbk succ = true) : call T 130 [.agg [.f (.sl (succ.map rl)),.f (.sl ((zM succ).map rl))]] [] = some (vB true,[]):=by
 rw [ze (fn:=ze9) rfl]
 obtain ⟨q1,q2,q3⟩:=zfZ hm
 have hM:=znz succ hs
 have hS:=zth succ (zM succ) q2 (by rw [zb5]; exact q2) hs.2 (zjm succ hs (zgA hm))
 simp -implicitDefEqProofs only [go_sem,zjf,hm] at hM
 simp -implicitDefEqProofs only [go_sem] at hS
 simp -implicitDefEqProofs only [go_sem,ze9,hM,hS]
section
variable (succ : List (List Int)) (root : Int)
def ovB (c b : Nat) : Bool:=(zdn succ root (-1)).getD b false && !(zdn succ root (c : Int)).getD b false
def znY (c : Nat) : List Bool:=(yL succ.length).map fun b => ovB succ root c b
def zf8 (c k : Nat) : List Bool:=(yL succ.length).map fun b => if b < k then ovB succ root c b else false
def ze2 (b a : Nat) : Nat → Nat → Bool
 | _,0 => true
 | k,d + 1 => (decide (k = b) || (!ovB succ root k b || ovB succ root k a)) && ze2 b a (k + 1) d
def zfS (b : Nat) : Nat → Nat → Int → Int
 | _,0,v => v
 | k,d + 1,v => zfS b (k + 1) d (if (!decide (k = b) && (ovB succ root k b && ze2 succ root b k 0 succ.length)) = true then (k : Int) else v)
def zr3 (b : Nat) : Int:=if (b : Int) = root then -1 else zfS succ root b 0 succ.length (-2)
def zgm (k : Nat) : List Int:=(yL succ.length).map fun b => if b < k then zr3 succ root b else 0
def zeS : List Int:=(yL succ.length).map fun b => zr3 succ root b
theorem zji (c : Nat) : (znY succ root c).length = succ.length:=by simp [znY]
theorem zer (c k : Nat) : (zf8 succ root c k).length = succ.length:=by simp [zf8]
theorem ziH (w : Int) : (zdn succ root w).length = succ.length:=by
 unfold zdn
 split
 ·simp
 ·rw [zgx]; simp
theorem zs4 (c b : Nat) (h : b < succ.length) : (znY succ root c)[b]? = some (ovB succ root c b):=by simp [znY,h]
theorem zh4 (c k b : Nat) (h : b < succ.length) : (zf8 succ root c k)[b]? = some (if b < k then ovB succ root c b else false):=by simp [zf8,h]
theorem zuL (c : Nat) : zf8 succ root c 0 = yq succ.length false:=by
 apply ym
 intro j
 by_cases h : j < succ.length
 ·rw [zh4 succ root c 0 j h]; simp [h]
 ·rw [yc (by rw [zer]; omega),yc (by simp; omega)]
theorem zxh (c : Nat) : zf8 succ root c succ.length = znY succ root c:=by
 apply ym
 intro j
 by_cases h : j < succ.length
 ·rw [zh4 succ root c _ j h,zs4 succ root c j h,if_pos h]
 ·rw [yc (by rw [zer]; omega),yc (by rw [zji]; omega)]
theorem zwh (c k : Nat) (h : k < succ.length) : (zf8 succ root c k).set k (ovB succ root c k) = zf8 succ root c (k + 1):=by
 apply ym
 intro j
 by_cases c' : j < succ.length
 ·rw [zh4 succ root c (k + 1) j c']
  by_cases e : k = j
  ·subst e
   rw [yt (by rw [zer]; exact h),if_pos (by omega)]
  ·rw [yA e,zh4 succ root c k j c']
   by_cases f : j < k
   ·rw [if_pos f,if_pos (by omega)]
   ·rw [if_neg f,if_neg (by omega)]
 ·rw [yc (by rw [yH,zer]; omega),yc (by rw [zer]; omega)]
theorem zf1 (k : Nat) : (zgm succ root k).length = succ.length:=by simp [zgm]
theorem zlT (k b : Nat) (h : b < succ.length) : (zgm succ root k)[b]? = some (if b < k then zr3 succ root b else 0):=by simp [zgm,h]
theorem zxP (k : Nat) (h : k < succ.length) : (zgm succ root k).set k (zr3 succ root k) = zgm succ root (k + 1):=by
 apply ym
 intro j
 by_cases c' : j < succ.length
 ·rw [zlT succ root (k + 1) j c']
  by_cases e : k = j
  ·subst e
   rw [yt (by rw [zf1]; exact h),if_pos (by omega)]
  ·rw [yA e,zlT succ root k j c']
   by_cases f : j < k
   ·rw [if_pos f,if_pos (by omega)]
   ·rw [if_neg f,if_neg (by omega)]
 ·rw [yc (by rw [yH,zf1]; omega),yc (by rw [zf1]; omega)]
theorem zw7 : zgm succ root 0 = yq succ.length 0:=by
 apply ym
 intro j
 by_cases h : j < succ.length
 ·rw [zlT succ root 0 j h]; simp [h]
 ·rw [yc (by rw [zf1]; omega),yc (by simp; omega)]
theorem zzI : zgm succ root succ.length = zeS succ root:=by
 unfold zgm zeS
 apply List.map_congr_left
 intro b hb
 rw [if_pos (yae.1 hb)]
def zm0 (n k : Nat) : List (List C):=(yL n).map fun a => if a < k then [.own (a + 1 + 1) 0 0 n] else [.f (.sl [])]
theorem zhz (n k : Nat) : (zm0 n k).length = n:=by simp [zm0]
theorem zgP (n k a : Nat) (h : a < n) (hk : a < k) : (zm0 n k)[a]? = some [.own (a + 1 + 1) 0 0 n]:=by simp [zm0,h,hk]
theorem zAi (n k a : Nat) (h : a < n) : ∃ c,(zm0 n k)[a]? = some [c]:=by
 by_cases hk : a < k
 ·exact ⟨_,zgP n k a h hk⟩
 ·exact ⟨.f (.sl []),by simp [zm0,h,hk]⟩
theorem zzL (n k : Nat) (h : k < n) : (zm0 n k).set k [.own (k + 1 + 1) 0 0 n] = zm0 n (k + 1):=by
 apply ym
 intro j
 by_cases c' : j < n
 ·by_cases e : k = j
  ·subst e
   rw [yt (by rw [zhz]; exact h),zgP n _ _ c' (by omega)]
  ·rw [yA e]
   by_cases f : j < k
   ·rw [zgP n k j c' f,zgP n (k + 1) j c' (by omega)]
   ·simp [zm0,c',f,show ¬ j < k + 1 by omega]
 ·rw [yc (by rw [yH,zhz]; omega),yc (by rw [zhz]; omega)]
theorem zwt (n : Nat) : zm0 n 0 = yq n [.f (.sl [])]:=by
 apply ym
 intro j
 by_cases h : j < n
 ·simp [zm0,h]
 ·rw [yc (by rw [zhz]; omega),yc (by simp; omega)]
def zeW (k : Nat) : zd:=(yL k).map fun c => .cells 0 1 ((znY succ root c).map zfD)
theorem zaG (k : Nat) : (zeW succ root k).length = k:=by simp [zeW]
theorem zuS (k : Nat) : zeW succ root k ++ [.cells 0 1 ((znY succ root k).map zfD)] = zeW succ root (k + 1):=by
 unfold zeW
 rw [List.range_succ,yad]
 rfl
theorem zwq (k c : Nat) (h : c < k) : (zeW succ root k)[c]? = some (.cells 0 1 ((znY succ root c).map zfD)):=by simp [zeW,h]
end
end AC

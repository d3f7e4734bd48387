/- A part of the proof of SchedDepth. Conditions: none. -/
import Derived.Test.YtmkncmffaaninaaGreatDAW
import Derived.Test.YtmkncmffaaninaaGreatDAU
set_option linter.unusedVariables false
set_option linter.unusedSimpArgs false
set_option linter.unusedSectionVars false
open List renaming mem_cons_self → ya,mem_cons_of_mem → yb,getD_eq_getElem?_getD → yc,mem_singleton → yd,mem_cons → ye,getElem?_eq_getElem → yf,mem_append → yg,getElem?_replicate → yh,append_inj_right' → yi,getElem?_eq_some_iff → yk,length_cons → yl,mem_reverse → ym,nodup_cons → yn,mem_iff_getElem? → yo,mem_of_getElem? → yp,length_append → yq,getElem?_cons_zero → yr,replicate → ys,not_mem_nil → yt,eq_nil_or_concat → yu,append_inj_left' → yv,length_reverse → yx,pairwise_cons → yy,getElem?_drop → yz,map_cons → yB,sum_cons → yC,nodup_append → yD,cons_append → yF
open Nat renaming le_refl → yw,add_zero → yE,le_trans → yG
open Int renaming toNat_natCast → yA
namespace AC
open Dm
theorem zvS {t : List Int} {x y : Int} (b : Int) (hx : 0 ≤ x ∧ x < t.length) (hy : 0 ≤ y) : tr (t.set x.toNat b) y = if y = x then b else tr t y:=by
 unfold tr
 by_cases c : y = x
 ·subst c
  rw [if_pos rfl,zbh _ _ (by omega)]
 ·rw [if_neg c,getD_set_ne _ _ (by omega)]
def tf (t : List Int) (x : Int) : Int:=if 0 ≤ x then tr t x else -2
theorem zt9 {t : List Int} {x : Int} (h : 0 ≤ x) : tf t x = tr t x:=by unfold tf; rw [if_pos h]
theorem zvo {n : Nat} {a : Int} (h : 0 ≤ a ∧ a < (n : Int)) : inR n a = true:=by simp [inR,h.1,h.2]
section
variable {E : Int → Int → Prop} {root : Int} {O : Int → Prop} {pos : Int → Nat} {n : Nat} {at' : List Int}
variable (H : Ord E root O pos) (hO : ∀ a,O a → 0 ≤ a ∧ a < (n : Int)) (hal : at'.length = n) (hat : ∀ a,O a → tr at' a = (pos a : Int))
section
variable {t : List Int} (htl : t.length = n) (I : Inv E root O pos (tf t))
include H hO hal hat htl I
theorem zqX {b : Int} (hb : tf t b ≠ -2) : ∀ (r : Nat) (a : Int),tf t a ≠ -2 → pos a < r → ∃ c,zor t at' r a b = some c ∧ tf t c ≠ -2 ∧ pos c ≤ pos b ∧ pos c ≤ pos a ∧ (pos b < pos a → pos c < pos a) ∧ (∀ y,(Anc root (tf t) y a ∧ Anc root (tf t) y b) ↔ (Anc root (tf t) y c ∧ Anc root (tf t) y b)):=by
 intro r
 induction r with
 | zero => intro a _ h; omega
 | succ r ih =>
   intro a ha hr
   have oa:=zi9 H I ha
   have ob:=zi9 H I hb
   have ra:=hO a oa
   have rb:=hO b ob
   have e : (inR t.length a && (inR at'.length a && inR at'.length b)) = true:=by
    rw [htl,hal,zvo ra,zvo rb]
    rfl
   rw [zor,if_pos e,hat a oa,hat b ob]
   by_cases c : pos b < pos a
   ·rw [if_pos (by omega)]
    have hn : a ≠ root:=by
     rintro rfl
     have:=H.low b ob
     omega
    obtain ⟨p1,p2⟩:=I.par a hn ha
    have ea:=zt9 (t:=t) ra.1
    rw [ea] at p1 p2
    obtain ⟨c',h1,h2,h3,h4,h5,h6⟩:=ih (tr t a) p1 (by omega)
    refine ⟨c',h1,h2,h3,by omega,fun _ => by omega,fun y => ?_⟩
    rw [← h6 y]
    constructor
    ·rintro ⟨k1,k2⟩
     refine ⟨?_,k2⟩
     have hne : y ≠ a:=by
      rintro rfl
      have:=ztr H I k2 hb
      omega
     have:=(zno k1 hne).2
     rwa [ea] at this
    ·rintro ⟨k1,k2⟩
     exact ⟨.step hn (by rwa [ea]),k2⟩
   ·rw [if_neg (by omega)]
    exact ⟨a,rfl,ha,by omega,yw _,fun h => absurd h c,fun _ => Iff.rfl⟩
theorem zyu {K : Nat} (hK : ∀ a,O a → pos a < K) : ∀ (r : Nat) (a b : Int),tf t a ≠ -2 → tf t b ≠ -2 → pos a + pos b < r → ∃ c,zsy t at' K r a b = some c ∧ tf t c ≠ -2 ∧ ∀ y,Anc root (tf t) y c ↔ Anc root (tf t) y a ∧ Anc root (tf t) y b:=by
 intro r
 induction r with
 | zero => intro a b _ _ h; omega
 | succ r ih =>
   intro a b ha hb hr
   rw [zsy]
   by_cases c : a = b
   ·subst c
    rw [if_pos rfl]
    exact ⟨a,rfl,ha,fun y => ⟨fun h => ⟨h,h⟩,fun h => h.1⟩⟩
   ·rw [if_neg c]
    have hp : pos a ≠ pos b:=fun h => c (H.inj a b (zi9 H I ha) (zi9 H I hb) h)
    obtain ⟨a',h1,h2,h3,h4,h5,h6⟩:=zqX H hO hal hat htl I hb K a ha (hK a (zi9 H I ha))
    obtain ⟨b',k1,k2,k3,k4,k5,k6⟩:=zqX H hO hal hat htl I h2 K b hb (hK b (zi9 H I hb))
    rw [h1]
    simp only [k1]
    obtain ⟨c',q1,q2,q3⟩:=ih a' b' h2 k2 (by omega)
    refine ⟨c',q1,q2,fun y => ?_⟩
    rw [q3 y]
    constructor
    ·rintro ⟨w1,w2⟩
     have w3:=(k6 y).2 ⟨w2,w1⟩
     have w4:=(h6 y).2 ⟨w1,w3.1⟩
     exact w4
    ·rintro ⟨w1,w2⟩
     have w3:=(h6 y).1 ⟨w1,w2⟩
     have w4:=(k6 y).1 ⟨w2,w3.1⟩
     exact ⟨w3.1,w4.1⟩
theorem zlJ {K : Nat} (hK : ∀ a,O a → 2 * pos a < K) : ∀ (ps : List Int) (b : Int),(∀ p ∈ ps,0 ≤ p ∧ p < (n : Int)) → (b = -2 ∨ tf t b ≠ -2) → ∃ c,zlP t at' K ps b = some c ∧ ((c = -2 ∧ b = -2 ∧ ∀ p ∈ ps,tf t p = -2) ∨ (tf t c ≠ -2 ∧ ∀ y,Anc root (tf t) y c ↔ (∀ p ∈ ps,tf t p ≠ -2 → Anc root (tf t) y p) ∧ (b ≠ -2 → Anc root (tf t) y b)))
 | [],b,_,hb => by
   refine ⟨b,rfl,?_⟩
   rcases hb with rfl | hb
   ·exact .inl ⟨rfl,rfl,by simp⟩
   ·exact .inr ⟨hb,fun y => ⟨fun h => ⟨by simp,fun _ => h⟩,fun h => h.2 (I.nn _ (zi9 H I hb))⟩⟩
 | p :: ps,b,hp,hb => by
   have hr:=hp p ya
   have hps:=fun q hq => hp q (yb _ hq)
   rw [zlP,if_pos (by rw [htl]; exact zvo hr)]
   have ep:=zt9 (t:=t) hr.1
   by_cases c : tr t p = -2
   ·rw [if_pos c]
    obtain ⟨c',h1,h2⟩:=zlJ hK ps b hps hb
    refine ⟨c',h1,?_⟩
    rcases h2 with ⟨k1,k2,k3⟩ | ⟨k1,k2⟩
    ·refine .inl ⟨k1,k2,fun q hq => ?_⟩
     rcases ye.1 hq with rfl | hq
     ·rw [ep]; exact c
     ·exact k3 q hq
    ·refine .inr ⟨k1,fun y => ?_⟩
     rw [k2 y]
     constructor
     ·rintro ⟨w1,w2⟩
      refine ⟨fun q hq hn => ?_,w2⟩
      rcases ye.1 hq with rfl | hq
      ·rw [ep] at hn; exact absurd c hn
      ·exact w1 q hq hn
     ·rintro ⟨w1,w2⟩
      exact ⟨fun q hq hn => w1 q (yb _ hq) hn,w2⟩
   ·rw [if_neg c]
    have hpp : tf t p ≠ -2:=by rw [ep]; exact c
    by_cases d : b = -2
    ·rw [if_pos d]
     obtain ⟨c',h1,h2⟩:=zlJ hK ps p hps (.inr hpp)
     refine ⟨c',h1,?_⟩
     rcases h2 with ⟨k1,k2,k3⟩ | ⟨k1,k2⟩
     ·have:=hr.1
      omega
     ·refine .inr ⟨k1,fun y => ?_⟩
      rw [k2 y]
      constructor
      ·rintro ⟨w1,w2⟩
       refine ⟨fun q hq hn => ?_,fun h => absurd d h⟩
       rcases ye.1 hq with rfl | hq
       ·exact w2 (by have:=hr.1; omega)
       ·exact w1 q hq hn
      ·rintro ⟨w1,w2⟩
       exact ⟨fun q hq hn => w1 q (yb _ hq) hn,fun _ => w1 p ya hpp⟩
    ·rw [if_neg d]
     have hbb : tf t b ≠ -2:=hb.resolve_left d
     obtain ⟨m,m1,m2,m3⟩:=zyu H hO hal hat htl I (K:=K) (fun a ha => by have:=hK a ha; omega) K b p hbb hpp (by have:=hK b (zi9 H I hbb); have:=hK p (zi9 H I hpp); omega)
     rw [m1]
     obtain ⟨c',h1,h2⟩:=zlJ hK ps m hps (.inr m2)
     refine ⟨c',h1,?_⟩
     rcases h2 with ⟨k1,k2,k3⟩ | ⟨k1,k2⟩
     ·rw [k2] at m2
      exact absurd rfl (I.nn _ (zi9 H I m2))
     ·refine .inr ⟨k1,fun y => ?_⟩
      rw [k2 y]
      constructor
      ·rintro ⟨w1,w2⟩
       have w3:=(m3 y).1 (w2 (I.nn _ (zi9 H I m2)))
       refine ⟨fun q hq hn => ?_,fun _ => w3.1⟩
       rcases ye.1 hq with rfl | hq
       ·exact w3.2
       ·exact w1 q hq hn
      ·rintro ⟨w1,w2⟩
       exact ⟨fun q hq hn => w1 q (yb _ hq) hn,fun _ => (m3 y).2 ⟨w2 d,w1 p ya hpp⟩⟩
end
variable {pred : List (List Int)} (hpr : ∀ x,O x → ∀ p,p ∈ pred.getD x.toNat [] ↔ E p x) (hpn : ∀ x,O x → ∀ p ∈ pred.getD x.toNat [],0 ≤ p ∧ p < (n : Int))
section
variable {t : List Int} (htl : t.length = n) (I : Inv E root O pos (tf t))
include H hO hal hat hpr hpn htl I
theorem ztJ {K : Nat} (hK : ∀ a,O a → 2 * pos a < K) : ∀ (l : List Int),(∀ x ∈ l,O x ∧ x ≠ root) → l.Pairwise (fun a b => pos a < pos b) → (∀ y,O y → y ≠ root → y ∉ l → (∀ x ∈ l,pos y < pos x) → St E root (tf t) y) → (∀ y,O y → y ≠ root → y ∉ l → (∀ x ∈ l,pos y < pos x) ∨ False) →
  (zro pred t at' K l = some none ∧ ∀ x ∈ l,St E root (tf t) x) ∨ (∃ x b,zro pred t at' K l = some (some (x,b)) ∧ x ∈ l ∧ Upd E root O pos (tf t) (tf (t.set x.toNat b)) x b)
 | [],_,_,_,_ => .inl ⟨rfl,by simp⟩
 | x :: l,hl,hs,hst,hall => by
   obtain ⟨ox,hxr⟩:=hl x ya
   have rx:=hO x ox
   have hlt:=yy.1 hs
   have early : ∀ y,O y → y ≠ root → pos y < pos x → St E root (tf t) y:=fun y h1 h2 h3 => by
    have hn : y ∉ x :: l:=by
     intro h
     rcases ye.1 h with rfl | h
     ·omega
     ·have:=hlt.1 y h; omega
    exact hst y h1 h2 hn ((hall y h1 h2 hn).resolve_right id)
   obtain ⟨c,h1,h2⟩:=zlJ H hO hal hat htl I hK (pred.getD x.toNat []) (-2) (hpn x ox) (.inl rfl)
   rcases h2 with ⟨k1,k2,k3⟩ | ⟨k1,k2⟩
   ·obtain ⟨p,q1,q2,q3⟩:=H.par x ox hxr
    have:=k3 p ((hpr x ox p).2 q2)
    exact absurd this (zsh H I early q1 q3)
   ·have com : ∀ y,Anc root (tf t) y c ↔ Com E root (tf t) x y:=fun y => by
     rw [k2 y]
     constructor
     ·rintro ⟨w,_⟩ p e hp
      exact w p ((hpr x ox p).2 e) hp
     ·intro w
      exact ⟨fun p hp hn => w p ((hpr x ox p).1 hp) hn,fun h => absurd rfl h⟩
    have ex:=zt9 (t:=t) rx.1
    rw [zro,if_pos (by rw [htl]; exact zvo rx),h1]
    simp only
    by_cases d : tr t x = c
    ·rw [if_pos d]
     have sx : St E root (tf t) x:=by
      refine ⟨?_,fun y => ?_⟩
      ·rw [ex,d]
       exact I.nn _ (zi9 H I k1)
      ·rw [ex,d]
       exact com y
     have:=ztJ hK l (fun y hy => hl y (yb _ hy)) hlt.2 (fun y h1 h2 h3 h4 => ?_) (fun y h1 h2 h3 => ?_)
     ·rcases this with ⟨w1,w2⟩ | ⟨y,b,w1,w2,w3⟩
      ·refine .inl ⟨w1,fun y hy => ?_⟩
       rcases ye.1 hy with rfl | hy
       ·exact sx
       ·exact w2 y hy
      ·exact .inr ⟨y,b,w1,yb _ w2,w3⟩
     ·by_cases e : y = x
      ·rw [e]; exact sx
      ·have hn : y ∉ x :: l:=fun h => (ye.1 h).elim e h3
       exact hst y h1 h2 hn ((hall y h1 h2 hn).resolve_right id)
     ·by_cases e : y = x
      ·rw [e]; exact .inl hlt.1
      ·have hn : y ∉ x :: l:=fun h => (ye.1 h).elim e h3
       exact .inl fun z hz => ((hall y h1 h2 hn).resolve_right id) z (yb _ hz)
    ·rw [if_neg d]
     refine .inr ⟨x,c,rfl,ya,?_,fun y hy => ?_,ox,hxr,early,k1,com,?_⟩
     ·rw [zt9 rx.1,zvS c (by rw [htl]; exact rx) rx.1,if_pos rfl]
     ·unfold tf
      by_cases e : 0 ≤ y
      ·rw [if_pos e,if_pos e,zvS c (by rw [htl]; exact rx) e,if_neg hy]
      ·rw [if_neg e,if_neg e]
     ·rw [ex]
      exact fun h => d h.symm
end
def wgt (pos : Int → Nat) (M : Nat) (t : List Int) (x : Int) : Nat:=if tf t x = -2 then M else pos (tf t x)
theorem zEy {l : List Int} {f g : Int → Nat} (h : ∀ x ∈ l,g x ≤ f x) {z : Int} (hz : z ∈ l) (hlt : g z < f z) : (l.map g).sum < (l.map f).sum:=by
 induction l with
 | nil => cases hz
 | cons a l ih =>
   have le : ∀ l : List Int,(∀ x ∈ l,g x ≤ f x) → (l.map g).sum ≤ (l.map f).sum:=by
    intro l
    induction l with
    | nil => intro _; exact yw _
    | cons b l ih =>
      intro h
      have h1:=h b ya
      have h2:=ih fun x hx => h x (yb _ hx)
      simp only [yB,yC]
      omega
   simp only [yB,yC]
   have h1:=h a ya
   have hr:=fun x hx => h x (yb a hx)
   rcases ye.1 hz with rfl | hz
   ·have:=le l hr
    omega
   ·have:=ih hr hz
    omega
include H hO hal hat hpr hpn in
theorem zAU {K M : Nat} (hK : ∀ a,O a → 2 * pos a < K) (hM : ∀ a,O a → pos a < M) (tail : List Int) (hl : ∀ x ∈ tail,O x ∧ x ≠ root) (hs : tail.Pairwise (fun a b => pos a < pos b)) (hall : ∀ y,O y → y ≠ root → y ∈ tail) :
  ∀ (r : Nat) (t : List Int),t.length = n → Inv E root O pos (tf t) → (tail.map (wgt pos M t)).sum < r → ∃ t',zg6 pred at' K tail r t = some t' ∧ t'.length = n ∧ Inv E root O pos (tf t') ∧ ∀ x,O x → x ≠ root → St E root (tf t') x:=by
 intro r
 induction r with
 | zero => intro t _ _ h; omega
 | succ r ih =>
   intro t htl I hr
   rw [zg6]
   rcases ztJ H hO hal hat hpr hpn htl I hK tail hl hs (fun y h1 h2 h3 => absurd (hall y h1 h2) h3) (fun y h1 h2 h3 => absurd (hall y h1 h2) h3) with ⟨h1,h2⟩ | ⟨x,b,h1,h2,U⟩
   ·rw [h1]
    exact ⟨t,rfl,htl,I,fun x h3 h4 => h2 x (hall x h3 h4)⟩
   ·rw [h1]
    refine ih _ (by simp [htl]) (zDb H I U) ?_
    have key : (tail.map (wgt pos M (t.set x.toNat b))).sum < (tail.map (wgt pos M t)).sum:=by
     obtain ⟨m1,m2,m3⟩:=zCJ H I U
     have hbM:=hM b (zi9 H I U.hm)
     refine zEy (fun y _ => ?_) h2 ?_
     ·by_cases c : y = x
      ·subst c
       unfold wgt
       rw [U.at',if_neg m2]
       split
       ·omega
       ·rename_i d
        exact Nat.le_of_lt (zxY H I U d)
      ·unfold wgt
       rw [U.ne y c]
       exact yw _
     ·unfold wgt
      rw [U.at',if_neg m2]
      split
      ·exact hbM
      ·rename_i d
       exact zxY H I U d
    omega
end
end AC
namespace AC
open Dm
def Eg (succ : List (List Int)) (p x : Int) : Prop:=0 ≤ p ∧ p < (succ.length : Int) ∧ x ∈ succ.getD p.toNat []
section
variable (succ : List (List Int)) (root : Int)
def zFv : List Int → Prop
 | [] => False
 | [x] => x = root
 | x :: y :: s => Eg succ y x ∧ zFv (y :: s)
structure DS (d : DF) : Prop where
 sl : d.seen.length = 64
 nl : d.next.length = 64
 rng : ∀ x,x ∈ d.stk ∨ x ∈ d.out → 0 ≤ x ∧ x < (succ.length : Int)
 mem : ∀ x,0 ≤ x → x < (succ.length : Int) → (d.seen.getD x.toNat false = true ↔ x ∈ d.stk ∨ x ∈ d.out)
 nd : (d.stk ++ d.out).Nodup
 bk : zFv succ root d.stk
 cl : ∀ x ∈ d.out,∀ y,Eg succ x y → y ∈ d.stk ∨ y ∈ d.out
 nx : ∀ x ∈ d.stk,∀ j y,j < d.next.getD x.toNat 0 → (succ.getD x.toNat [])[j]? = some y → y ∈ d.stk ∨ y ∈ d.out
 fr : ∀ x,0 ≤ x → x < (succ.length : Int) → ¬ (x ∈ d.stk ∨ x ∈ d.out) → d.next.getD x.toNat 0 = 0
 par : ∀ l1 x l2,d.out = l1 ++ x :: l2 → ∃ p,Eg succ p x ∧ (p ∈ l2 ∨ p ∈ d.stk)
 rch : ∀ x,x ∈ d.stk ∨ x ∈ d.out → ∃ l,Way (Eg succ) root x l
end
theorem zsJ {seen : List Bool} : ∀ {l : List Int} {k : Nat} {y : Int} {j : Nat},scan seen l k = some (y,j) → ∃ i,j = k + i + 1 ∧ l[i]? = some y ∧ seen.getD y.toNat false = false ∧ ∀ i' z,i' < i → l[i']? = some z → seen.getD z.toNat false = true
 | [],_,_,_,h => by simp [scan] at h
 | z :: r,k,y,j,h => by
   simp only [scan] at h
   split at h
   ·rename_i c
    obtain ⟨i,h1,h2,h3,h4⟩:=zsJ h
    refine ⟨i + 1,by omega,by simpa using h2,h3,fun i' w hi hw => ?_⟩
    cases i' with
    | zero => simp at hw; rw [← hw]; exact c
    | succ i' => exact h4 i' w (by omega) (by simpa using hw)
   ·rename_i c
    simp only [Option.some.injEq,Prod.mk.injEq] at h
    obtain ⟨rfl,rfl⟩:=h
    exact ⟨0,by omega,rfl,by simpa using c,fun i' w hi => by omega⟩
theorem ztu {seen : List Bool} : ∀ {l : List Int} {k : Nat},scan seen l k = none → ∀ z ∈ l,seen.getD z.toNat false = true
 | [],_,_ => by simp
 | z :: r,k,h => by
   simp only [scan] at h
   split at h
   ·rename_i c
    intro w hw
    rcases ye.1 hw with rfl | hw
    ·exact c
    ·exact ztu h w hw
   ·cases h
theorem zhY {l : List Int} {n : Nat} (hd : l.Nodup) (h : ∀ x ∈ l,0 ≤ x ∧ x < (n : Int)) : l.length ≤ n:=by
 have:=hd.length_le_of_subset (l₂:=(List.range n).map fun i : Nat => (i : Int)) (fun x hx => by
  obtain ⟨h1,h2⟩:=h x hx
  exact List.mem_map.2 ⟨x.toNat,List.mem_range.2 (by omega),by omega⟩)
 simpa using this
section
variable {succ : List (List Int)} {root : Int} (hn : succ.length ≤ 64) (hr : ∀ l ∈ succ,∀ y ∈ l,0 ≤ y ∧ y < (succ.length : Int))
include hr in
theorem zvJ {x y : Int} (h : Eg succ x y) : 0 ≤ y ∧ y < (succ.length : Int):=by
 obtain ⟨h1,h2,h3⟩:=h
 have hlt : x.toNat < succ.length:=by omega
 rw [yc,yf hlt] at h3
 exact hr _ (List.getElem_mem hlt) y h3
include hn hr
theorem zDD {d : DF} (D : DS succ root d) {x : Int} {s : List Int} (hs : d.stk = x :: s) {y : Int} {j : Nat} (h : zf0 succ d x = some (y,j)) :
  DS succ root ⟨d.seen.set y.toNat true,d.next.set x.toNat j,d.out,y :: x :: s⟩ ∧ ¬ (y ∈ d.stk ∨ y ∈ d.out) ∧ 0 ≤ y ∧ y < (succ.length : Int):=by
 obtain ⟨i,rfl,h2,h3,h4⟩:=zsJ h
 have rx:=D.rng x (.inl (by rw [hs]; exact ya))
 have hy' : (succ.getD x.toNat [])[d.next.getD x.toNat 0 + i]? = some y:=by simpa using h2
 have e : Eg succ x y:=⟨rx.1,rx.2,yp hy'⟩
 have ry:=zvJ hr e
 have hny : ¬ (y ∈ d.stk ∨ y ∈ d.out):=fun hm => by
  have:=(D.mem y ry.1 ry.2).2 hm
  rw [h3] at this
  cases this
 have hxy : x ≠ y:=fun h => hny (.inl (by rw [hs,← h]; exact ya))
 have hsl:=D.sl
 have hnl:=D.nl
 have up : ∀ z,(z ∈ d.stk ∨ z ∈ d.out) → (z ∈ y :: x :: s ∨ z ∈ d.out):=fun z hz => by
  rw [hs] at hz
  rcases hz with hz | hz
  ·exact .inl (yb _ hz)
  ·exact .inr hz
 have dn : ∀ z,(z ∈ y :: x :: s ∨ z ∈ d.out) → z = y ∨ (z ∈ d.stk ∨ z ∈ d.out):=fun z hz => by
  rw [hs]
  rcases hz with hz | hz
  ·rcases ye.1 hz with hz | hz
   ·exact .inl hz
   ·exact .inr (.inl hz)
  ·exact .inr (.inr hz)
 refine ⟨⟨by simp [hsl],by simp [hnl],fun z hz => ?_,fun z z0 z1 => ?_,?_,?_,fun z hz w hw => up w (D.cl z hz w hw),fun z hz k w hk hw => ?_,fun z z0 z1 hz => ?_,fun l1 z l2 hl => ?_,fun z hz => ?_⟩,hny,ry⟩
 ·rcases dn z hz with rfl | hz
  ·exact ry
  ·exact D.rng z hz
 ·by_cases c : z = y
  ·subst c
   rw [zbh _ _ (by omega)]
   simp
  ·rw [getD_set_ne _ _ (by omega),D.mem z z0 z1]
   exact ⟨up z,fun h => (dn z h).resolve_left c⟩
 ·show (y :: x :: s ++ d.out).Nodup
  have:=D.nd
  rw [hs] at this
  rw [yF,yn]
  refine ⟨fun hm => hny ?_,this⟩
  rw [hs]
  exact yg.1 hm
 ·show zFv succ root (y :: x :: s)
  have:=D.bk
  rw [hs] at this
  exact ⟨e,this⟩
 ·by_cases c : z = x
  ·subst c
   rw [zbh _ _ (by omega)] at hk
   by_cases c1 : k < d.next.getD z.toNat 0
   ·exact up w (D.nx z (by rw [hs]; exact ya) k w c1 hw)
   ·by_cases c2 : k = d.next.getD z.toNat 0 + i
    ·rw [c2,hy'] at hw
     injection hw with hw
     exact .inl (by rw [← hw]; exact ya)
    ·have hd : ((succ.getD z.toNat []).drop (d.next.getD z.toNat 0))[k - d.next.getD z.toNat 0]? = some w:=by
      rw [yz]
      rwa [show d.next.getD z.toNat 0 + (k - d.next.getD z.toNat 0) = k by omega]
     have h5:=h4 _ w (by omega) hd
     have rw':=zvJ hr (⟨rx.1,rx.2,yp hw⟩ : Eg succ z w)
     exact up w ((D.mem w rw'.1 rw'.2).1 h5)
  ·rcases ye.1 hz with rfl | hz
   ·have c0 : z.toNat ≠ x.toNat:=by omega
    rw [getD_set_ne _ _ (fun h => c0 h.symm),D.fr z ry.1 ry.2 hny] at hk
    omega
   ·have hz' : z ∈ d.stk:=by rw [hs]; exact hz
    have rz:=D.rng z (.inl hz')
    rw [getD_set_ne _ _ (by omega)] at hk
    exact up w (D.nx z hz' k w hk hw)
 ·have h0 : ¬ (z ∈ d.stk ∨ z ∈ d.out):=fun h => hz (up z h)
  have hzx : z ≠ x:=fun h => h0 (.inl (by rw [hs,h]; exact ya))
  show (d.next.set x.toNat _).getD z.toNat 0 = 0
  rw [getD_set_ne _ _ (by omega)]
  exact D.fr z z0 z1 h0
 ·obtain ⟨p,h5,h6⟩:=D.par l1 z l2 hl
  refine ⟨p,h5,h6.imp id fun h => ?_⟩
  rw [hs] at h
  exact yb _ h
 ·rcases dn z hz with rfl | hz
  ·obtain ⟨l,w⟩:=D.rch x (.inl (by rw [hs]; exact ya))
   exact ⟨_,.step w e⟩
  ·exact D.rch z hz
omit hn in
theorem zvD {d : DF} (D : DS succ root d) {x : Int} {s : List Int} (hs : d.stk = x :: s) (h : zf0 succ d x = none) : ∀ y,Eg succ x y → y ∈ d.stk ∨ y ∈ d.out:=by
 intro y e
 obtain ⟨k,hk⟩:=yo.1 e.2.2
 by_cases c : k < d.next.getD x.toNat 0
 ·exact D.nx x (by rw [hs]; exact ya) k y c hk
 ·have ry:=zvJ hr e
  refine (D.mem y ry.1 ry.2).1 (ztu h y (yp (i:=k - d.next.getD x.toNat 0) ?_))
  rw [yz]
  rwa [show d.next.getD x.toNat 0 + (k - d.next.getD x.toNat 0) = k by omega]
omit hn in
theorem zEL {d : DF} (D : DS succ root d) {x z : Int} {s : List Int} (hs : d.stk = x :: z :: s) (h : zf0 succ d x = none) (m : Nat) :
  DS succ root ⟨d.seen,d.next.set x.toNat m,d.out ++ [x],z :: s⟩:=by
 have hall:=zvD hr D hs h
 have rx:=D.rng x (.inl (by rw [hs]; exact ya))
 have iff : ∀ w,(w ∈ z :: s ∨ w ∈ d.out ++ [x]) ↔ (w ∈ d.stk ∨ w ∈ d.out):=fun w => by
  rw [hs,yg,yd,ye (a:=w) (b:=x)]
  constructor
  ·rintro (h | h | h)
   ·exact .inl (.inr h)
   ·exact .inr h
   ·exact .inl (.inl h)
  ·rintro ((h | h) | h)
   ·exact .inr (.inr h)
   ·exact .inl h
   ·exact .inr (.inl h)
 have hnd:=D.nd
 rw [hs,yF,yn] at hnd
 have hxs : x ∉ z :: s:=fun hm => hnd.1 (List.mem_append_left _ hm)
 have hxo : x ∉ d.out:=fun hm => hnd.1 (List.mem_append_right _ hm)
 refine ⟨D.sl,by simp [D.nl],fun w hw => D.rng w ((iff w).1 hw),fun w w0 w1 => (D.mem w w0 w1).trans (iff w).symm,?_,?_,fun w hw y hy => ?_,fun w hw k y hk hy => ?_,fun w w0 w1 hw => ?_,fun l1 w l2 hl => ?_,fun w hw => D.rch w ((iff w).1 hw)⟩
 ·show (z :: s ++ (d.out ++ [x])).Nodup
  rw [← List.append_assoc,yD]
  refine ⟨hnd.2,by simp,fun a ha b hb => ?_⟩
  rw [yd.1 hb]
  rintro rfl
  exact hnd.1 ha
 ·have:=D.bk
  rw [hs] at this
  exact this.2
 ·rw [iff]
  rcases yg.1 hw with hw | hw
  ·exact D.cl w hw y hy
  ·rw [yd.1 hw] at hy
   exact hall y hy
 ·rw [iff]
  have hne : w ≠ x:=fun h => hxs (h ▸ hw)
  have hw' : w ∈ d.stk:=by rw [hs]; exact yb _ hw
  have rw':=D.rng w (.inl hw')
  have hk' : k < (d.next.set x.toNat m).getD w.toNat 0:=hk
  rw [getD_set_ne _ _ (by omega)] at hk'
  exact D.nx w hw' k y hk' hy
 ·have hw' : ¬ (w ∈ d.stk ∨ w ∈ d.out):=fun h => hw ((iff w).2 h)
  have hne : w ≠ x:=fun h => hw' (.inl (by rw [h,hs]; exact ya))
  show (d.next.set x.toNat m).getD w.toNat 0 = 0
  rw [getD_set_ne _ _ (by omega)]
  exact D.fr w w0 w1 hw'
 ·have hl : d.out ++ [x] = l1 ++ w :: l2:=hl
  have hbk:=D.bk
  rw [hs] at hbk
  rcases yu l2 with h2 | ⟨l2',q,h2⟩
  ·subst h2
   have:=yi hl rfl
   injection this with this
   subst this
   exact ⟨z,hbk.1,.inr ya⟩
  ·subst h2
   have h3 : d.out ++ [x] = (l1 ++ w :: l2') ++ [q]:=by rw [hl]; simp
   have e1:=yv h3 rfl
   have e2:=yi h3 rfl
   injection e2 with e2
   subst e2
   obtain ⟨p,h5,h6⟩:=D.par l1 w l2' e1
   refine ⟨p,h5,?_⟩
   rw [hs] at h6
   rcases h6 with h6 | h6
   ·exact .inl (by simp [h6])
   ·rcases ye.1 h6 with rfl | h6
    ·exact .inl (by simp)
    ·exact .inr h6
structure Left (succ : List (List Int)) (root : Int) (o : List Int) : Prop where
 nd : o.Nodup
 last : ∃ l,o = l ++ [root]
 rng : ∀ x ∈ o,0 ≤ x ∧ x < (succ.length : Int)
 cl : ∀ x ∈ o,∀ y,Eg succ x y → y ∈ o
 par : ∀ l1 x l2,o = l1 ++ x :: l2 → x ≠ root → ∃ p,Eg succ p x ∧ p ∈ l2
 rch : ∀ x ∈ o,∃ l,Way (Eg succ) root x l
omit hn in
theorem zD6 {d : DF} (D : DS succ root d) {x : Int} (hs : d.stk = [x]) (h : zf0 succ d x = none) : Left succ root (d.out ++ [x]):=by
 have hall:=zvD hr D hs h
 have hbk:=D.bk
 rw [hs] at hbk
 have hxr : x = root:=hbk
 have iff : ∀ w,(w ∈ d.out ++ [x]) ↔ (w ∈ d.stk ∨ w ∈ d.out):=fun w => by
  rw [hs,yg]
  exact or_comm
 have hnd:=D.nd
 rw [hs,List.singleton_append,yn] at hnd
 refine ⟨?_,⟨d.out,by rw [hxr]⟩,fun w hw => D.rng w ((iff w).1 hw),fun w hw y hy => ?_,fun l1 w l2 hl hw => ?_,fun w hw => D.rch w ((iff w).1 hw)⟩
 ·rw [yD]
  refine ⟨hnd.2,by simp,fun a ha b hb => ?_⟩
  rw [yd.1 hb]
  rintro rfl
  exact hnd.1 ha
 ·rw [iff]
  rcases yg.1 hw with hw | hw
  ·exact D.cl w hw y hy
  ·rw [yd.1 hw] at hy
   exact hall y hy
 ·rcases yu l2 with h2 | ⟨l2',q,h2⟩
  ·subst h2
   have:=yi hl rfl
   injection this with this
   exact absurd (this.symm.trans hxr) hw
  ·subst h2
   have h3 : d.out ++ [x] = (l1 ++ w :: l2') ++ [q]:=by rw [hl]; simp
   have e1:=yv h3 rfl
   have e2:=yi h3 rfl
   injection e2 with e2
   subst e2
   obtain ⟨p,h5,h6⟩:=D.par l1 w l2' e1
   refine ⟨p,h5,?_⟩
   rw [hs] at h6
   rcases h6 with h6 | h6
   ·simp [h6]
   ·rw [yd.1 h6]; simp
theorem zA4 : ∀ (k : Nat) (d : DF),DS succ root d → 2 * (64 - (d.stk.length + d.out.length)) + d.stk.length < k → ∃ o,dfs succ k d = some o ∧ Left succ root o:=by
 intro k
 induction k with
 | zero => intro d _ h; omega
 | succ k ih =>
   intro d D hk
   rw [dfs]
   cases hs : d.stk with
   | nil =>
     have:=D.bk
     rw [hs] at this
     exact this.elim
   | cons x s =>
     simp only
     have hle : d.stk.length + d.out.length ≤ 64:=by
      have:=zhY D.nd fun x hx => D.rng x (yg.1 hx)
      rw [yq] at this
      omega
     cases hc : zf0 succ d x with
     | some yj =>
       obtain ⟨y,j⟩:=yj
       simp only
       obtain ⟨D',h1,h2,h3⟩:=zDD hn hr D hs hc
       have hle' : (y :: x :: s).length + d.out.length ≤ 64:=by
        have:=zhY D'.nd fun x hx => D'.rng x (yg.1 hx)
        rw [yq] at this
        exact yG this hn
       rw [hs] at hk
       simp only [yl] at hk hle'
       exact ih _ D' (by simp only [yl]; omega)
     | none =>
       simp only
       cases s with
       | nil => exact ⟨_,rfl,zD6 hr D hs hc⟩
       | cons z s =>
         have D':=zEL hr D hs hc (zw6 succ x)
         rw [hs] at hk hle
         simp only [yl] at hk hle
         exact ih _ D' (by simp only [yq,yl,List.length_nil]; omega)
theorem zzm (h0 : 0 ≤ root ∧ root < (succ.length : Int)) : ∃ o,dfs succ 200 (zsn root) = some o ∧ Left succ root o:=by
 refine zA4 hn hr 200 _ ⟨by simp [zsn,zp0],rfl,fun x hx => ?_,fun x x0 x1 => ?_,by simp [zsn],rfl,by simp [zsn],fun x hx j y hj => ?_,fun x _ _ _ => ?_,fun l1 x l2 hl => ?_,fun x hx => ?_⟩ (by simp [zsn])
 ·simp only [zsn,yd,yt,or_false] at hx
  rw [hx]; exact h0
 ·simp only [zsn,yd,yt,or_false]
  by_cases c : x = root
  ·subst c
   rw [zbh _ _ (by simp [zp0]; omega)]
   simp
  ·rw [getD_set_ne _ _ (by omega)]
   simp only [c,iff_false]
   unfold zp0
   rw [yc,yh]
   split <;> simp
 ·exfalso
  have : znQ.getD x.toNat 0 = 0:=by unfold znQ; rw [yc,yh]; split <;> rfl
  have hj : j < znQ.getD x.toNat 0:=hj
  omega
 ·show znQ.getD x.toNat 0 = 0
  unfold znQ
  rw [yc,yh]
  split <;> rfl
 ·have hl : ([] : List Int) = l1 ++ x :: l2:=hl
  simp at hl
 ·simp only [zsn,yd,yt,or_false] at hx
  rw [hx]
  exact ⟨_,.root⟩
end
end AC
namespace AC
open Dm
theorem zzv {x : Int} (hx : 0 ≤ x) : ∀ (l : List Int) (i : Nat) (a : List Int),(∀ y ∈ l,0 ≤ y) → x ∉ l → tr (zjX i l a) x = tr a x
 | [],_,_,_,_ => rfl
 | y :: l,i,a,hl,hn => by
   rw [zjX,zzv hx l _ _ (fun z hz => hl z (yb _ hz)) (fun h => hn (yb _ h))]
   unfold tr
   have:=hl y ya
   rw [getD_set_ne _ _ (fun h => hn (by rw [show x = y by omega]; exact ya))]
theorem zyA : ∀ (l : List Int) (i : Nat) (a : List Int),(∀ y ∈ l,0 ≤ y ∧ y < (a.length : Int)) → l.Nodup → ∀ (j : Nat) (x : Int),l[j]? = some x → tr (zjX i l a) x = ((i + j : Nat) : Int)
 | [],_,_,_,_,j,x,h => by simp at h
 | y :: l,i,a,hl,hd,j,x,h => by
   have hy:=hl y ya
   have hd':=yn.1 hd
   have hl' : ∀ z ∈ l,0 ≤ z ∧ z < ((a.set y.toNat (i : Int)).length : Int):=fun z hz => by rw [List.length_set]; exact hl z (yb _ hz)
   rw [zjX]
   cases j with
   | zero =>
     simp only [yr,Option.some.injEq] at h
     subst h
     rw [zzv hy.1 l _ _ (fun z hz => (hl' z hz).1) hd'.1]
     unfold tr
     rw [zbh _ _ (by omega),yE]
   | succ j =>
     rw [zyA l (i + 1) _ hl' hd'.2 j x (by simpa using h)]
     congr 1
     omega
theorem zrF (i : Int) (out : List (List Int)) (x : Int) (X : Nat) (hx : 0 ≤ x) (hX : X < out.length) : (ztG i out x).getD X [] = if x = X then out.getD X [] ++ [i] else out.getD X []:=by
 unfold ztG
 by_cases c : x = (X : Int)
 ·subst c
  rw [if_pos rfl,yA,zbh _ _ hX]
 ·rw [if_neg c,getD_set_ne _ _ (by omega)]
theorem zpj (i : Int) (X : Nat) (y : Int) : ∀ (l : List Int) (out : List (List Int)),(∀ x ∈ l,0 ≤ x) → X < out.length → (y ∈ (l.foldl (ztG i) out).getD X [] ↔ y ∈ out.getD X [] ∨ (y = i ∧ (X : Int) ∈ l))
 | [],out,_,_ => by simp
 | x :: l,out,hl,hX => by
   rw [List.foldl_cons,zpj i X y l _ (fun z hz => hl z (yb _ hz)) (by rw [zfL]; exact hX),zrF i out x X (hl x ya) hX]
   by_cases c : x = (X : Int)
   ·rw [if_pos c,yg,yd,ye]
    constructor
    ·rintro ((h | h) | h)
     ·exact .inl h
     ·exact .inr ⟨h,.inl c.symm⟩
     ·exact .inr ⟨h.1,.inr h.2⟩
    ·rintro (h | h)
     ·exact .inl (.inl h)
     ·exact .inl (.inr h.1)
   ·rw [if_neg c,ye]
    constructor
    ·rintro (h | h)
     ·exact .inl h
     ·exact .inr ⟨h.1,.inr h.2⟩
    ·rintro (h | ⟨h1,h2 | h2⟩)
     ·exact .inl h
     ·exact absurd h2.symm c
     ·exact .inr ⟨h1,h2⟩
theorem zl1 (X : Nat) (y : Int) : ∀ (l : List (List Int)) (i : Nat) (out : List (List Int)),(∀ r ∈ l,∀ x ∈ r,0 ≤ x) → X < out.length → (y ∈ (za9 i l out).getD X [] ↔ y ∈ out.getD X [] ∨ ∃ j r,l[j]? = some r ∧ y = ((i + j : Nat) : Int) ∧ (X : Int) ∈ r)
 | [],i,out,_,_ => by simp [za9]
 | r :: l,i,out,hl,hX => by
   rw [za9,zl1 X y l (i + 1) _ (fun z hz => hl z (yb _ hz)) (by rw [zf7]; exact hX),zpj (i : Int) X y r out (hl r ya) hX]
   constructor
   ·rintro ((h | h) | ⟨j,q,h1,h2,h3⟩)
    ·exact .inl h
    ·exact .inr ⟨0,r,rfl,by rw [h.1,yE],h.2⟩
    ·exact .inr ⟨j + 1,q,by simpa using h1,by rw [h2]; congr 1; omega,h3⟩
   ·rintro (h | ⟨j,q,h1,h2,h3⟩)
    ·exact .inl (.inl h)
    ·cases j with
     | zero =>
       simp only [yr,Option.some.injEq] at h1
       subst h1
       exact .inl (.inr ⟨by rw [h2,yE],h3⟩)
     | succ j => exact .inr ⟨j,q,by simpa using h1,by rw [h2]; congr 1; omega,h3⟩
theorem zpp {n : Int} : ∀ {l : List Int} {last : Int},zP n last l = true → ∀ x ∈ l,last < x ∧ x < n
 | [],_,_ => by simp
 | y :: r,last,h => by
   simp only [zP] at h
   split at h
   ·cases h
   ·rename_i c
    intro x hx
    rcases ye.1 hx with rfl | hx
    ·omega
    ·have:=zpp h x hx
     omega
theorem zeA {succ : List (List Int)} (h : zbk succ = true) : 1 ≤ succ.length ∧ succ.length ≤ 64 ∧ ∀ l ∈ succ,∀ y ∈ l,0 ≤ y ∧ y < (succ.length : Int):=by
 unfold zbk at h
 simp only [Bool.not_eq_true',Bool.or_eq_false_iff,decide_eq_false_iff_not,List.any_eq_false] at h
 refine ⟨by omega,by omega,fun l hl y hy => ?_⟩
 have h3 : rising l succ.length = true:=by simpa using h.2.2 l hl
 have:=zpp h3 y hy
 omega
theorem zl0 {succ : List (List Int)} (hr : ∀ l ∈ succ,∀ y ∈ l,0 ≤ y ∧ y < (succ.length : Int)) {x : Int} (hx : 0 ≤ x ∧ x < (succ.length : Int)) (p : Int) : p ∈ (zM succ).getD x.toNat [] ↔ Eg succ p x:=by
 unfold zM
 rw [zl1 x.toNat p succ 0 _ (fun l hl y hy => (hr l hl y hy).1) (by simp; omega)]
 have e0 : (ys succ.length ([] : List Int)).getD x.toNat [] = []:=by
  rw [yc,yh]
  split <;> rfl
 rw [e0]
 have ex : ((x.toNat : Nat) : Int) = x:=by omega
 rw [ex]
 constructor
 ·rintro (h | ⟨j,r,h1,h2,h3⟩)
  ·simp at h
  ·have hj:=(yk.1 h1).1
   refine ⟨by omega,by omega,?_⟩
   rw [show p.toNat = j by omega,yc,h1]
   exact h3
 ·rintro ⟨h1,h2,h3⟩
  have hlt : p.toNat < succ.length:=by omega
  rw [yc,yf hlt] at h3
  exact .inr ⟨p.toNat,succ[p.toNat],yf hlt,by omega,h3⟩
structure TreeOf (succ : List (List Int)) (root : Int) (O : Int → Prop) (pos : Int → Nat) (t : List Int) : Prop where
 len : t.length = succ.length
 ord : Ord (Eg succ) root O pos
 rng : ∀ a,O a → 0 ≤ a ∧ a < (succ.length : Int)
 inv : Inv (Eg succ) root O pos (tf t)
 st : ∀ x,O x → x ≠ root → St (Eg succ) root (tf t) x
 low : ∀ a,O a → pos a < succ.length
 rch : ∀ a,O a ↔ ∃ l,Way (Eg succ) root a l
theorem zAG {n root : Nat} (h : root < n) (x : Int) : tf (zkw n root) x = if x = root then (root : Int) else -2:=by
 unfold tf zkw
 by_cases c : 0 ≤ x
 ·rw [if_pos c]
  have e : tr ((ys n (-2 : Int)).set ((root : Nat) : Int).toNat root) x = if x = root then (root : Int) else tr (ys n (-2 : Int)) x:=zvS _ ⟨by omega,by simp; omega⟩ c
  rw [yA] at e
  rw [e]
  split
  ·rfl
  ·unfold tr
   rw [yc,yh]
   split <;> rfl
 ·rw [if_neg c,if_neg (by omega)]
theorem zC0 {succ : List (List Int)} (hm : zbk succ = true) {root : Nat} (h0 : root < succ.length) :
  ∃ o o0 tail t O pos,dfs succ 200 (zsn root) = some o ∧ o.reverse = o0 :: tail ∧ (∀ x ∈ o,0 ≤ x ∧ x < (succ.length : Int)) ∧ o.length ≤ 64 ∧
    zg6 (zM succ) (at0 succ.length o.reverse) 200 tail 5000 (zkw succ.length root) = some t ∧ TreeOf succ root O pos t ∧ (∀ x,O x ↔ x ∈ o):=by
 obtain ⟨n1,n64,hr⟩:=zeA hm
 obtain ⟨o,ho,L⟩:=zzm (root:=(root : Int)) n64 hr (by omega)
 obtain ⟨l0,hl0⟩:=L.last
 have hrev : o.reverse = (root : Int) :: l0.reverse:=by rw [hl0]; simp
 have hnd : o.reverse.Nodup:=List.pairwise_reverse.2 (L.nd.imp fun h => h.symm)
 have hlen : o.length ≤ 64:=yG (zhY L.nd L.rng) n64
 have hrl : o.reverse.length ≤ succ.length:=by rw [yx]; exact zhY L.nd L.rng
 obtain ⟨at',hat'⟩ : ∃ a,a = at0 succ.length o.reverse:=⟨_,rfl⟩
 have hal : at'.length = succ.length:=by rw [hat',at0,ziU]; simp
 have hget : ∀ (j : Nat) (x : Int),o.reverse[j]? = some x → tr at' x = (j : Int):=fun j x h => by
  have:=zyA o.reverse 0 (ys succ.length 0) (fun y hy => by rw [List.length_replicate]; exact L.rng y (ym.1 hy)) hnd j x h
  rw [hat',at0,this,Nat.zero_add]
 obtain ⟨pos,hpos⟩ : ∃ p : Int → Nat,p = fun a => (tr at' a).toNat:=⟨_,rfl⟩
 have hp : ∀ (j : Nat) (x : Int),o.reverse[j]? = some x → pos x = j:=fun j x h => by rw [hpos]; simp only; rw [hget j x h]; omega
 have hex : ∀ x,x ∈ o → ∃ j : Nat,o.reverse[j]? = some x ∧ j < o.reverse.length:=fun x hx => by
  obtain ⟨j,hj⟩:=yo.1 (ym.2 hx)
  exact ⟨j,hj,(yk.1 hj).1⟩
 have hroot : o.reverse[0]? = some (root : Int):=by rw [hrev]; rfl
 have hri : (root : Int) ∈ o:=by rw [hl0]; simp
 have hat : ∀ a,a ∈ o → tr at' a = (pos a : Int):=fun a ha => by
  obtain ⟨j,h1,_⟩:=hex a ha
  rw [hget j a h1,hp j a h1]
 have H : Ord (Eg succ) (root : Int) (· ∈ o) pos:=by
  refine ⟨hri,fun a b ha hb h => ?_,fun a _ => ?_,fun x hx hxr => ?_,fun p x hp' e => L.cl p hp' x e⟩
  ·obtain ⟨i,h1,_⟩:=hex a ha
   obtain ⟨j,h2,_⟩:=hex b hb
   rw [hp i a h1,hp j b h2] at h
   subst h
   rw [h1] at h2
   injection h2
  ·rw [hp 0 _ hroot]; omega
  ·obtain ⟨l1,l2,hl⟩:=List.append_of_mem hx
   obtain ⟨p,e,hpl⟩:=L.par l1 x l2 hl hxr
   have hrv : o.reverse = l2.reverse ++ (x :: l1.reverse):=by rw [hl]; simp
   have hx' : o.reverse[l2.length]? = some x:=by
    rw [hrv,List.getElem?_append_right (by simp)]
    simp
   obtain ⟨j,hj⟩:=yo.1 (ym.2 hpl)
   have hjl:=(yk.1 hj).1
   rw [yx] at hjl
   have hp' : o.reverse[j]? = some p:=by rw [hrv,List.getElem?_append_left (by simpa using hjl)]; exact hj
   exact ⟨p,by rw [hl]; simp [hpl],e,by rw [hp _ _ hx',hp _ _ hp']; exact hjl⟩
 have hO : ∀ a,a ∈ o → 0 ≤ a ∧ a < (succ.length : Int):=L.rng
 have hlow : ∀ a,a ∈ o → pos a < succ.length:=fun a ha => by
  obtain ⟨j,h1,h2⟩:=hex a ha
  rw [hp j a h1]
  omega
 have htf:=zAG (n:=succ.length) h0
 have I : Inv (Eg succ) (root : Int) (· ∈ o) pos (tf (zkw succ.length root)):=by
  have hz : ∀ x : Int,x ≠ (root : Int) → ¬ tf (zkw succ.length root) x ≠ -2:=fun x hx h => h (by rw [htf,if_neg hx])
  refine ⟨fun x hx => ?_,by rw [htf,if_pos rfl],fun x hx h => ?_,fun x h1 h2 => absurd h2 (hz x h1),fun x d h1 h2 => absurd h2 (hz x h1),fun x h1 h2 => absurd h2 (hz x h1),fun x h1 h2 => absurd h2 (hz x h1)⟩
  ·rw [htf,if_neg]
   rintro rfl
   exact hx hri
  ·have:=(hO x hx).1
   omega
 have hpw : o.reverse.Pairwise (fun a b => pos a < pos b):=by
  rw [List.pairwise_iff_getElem]
  intro i j hi hj hij
  rw [hp i _ (yf hi),hp j _ (yf hj)]
  exact hij
 rw [hrev] at hpw
 have htail : ∀ x ∈ l0.reverse,x ∈ o ∧ x ≠ (root : Int):=fun x hx => by
  have hx1 : x ∈ o:=by rw [hl0]; simp [ym.1 hx]
  refine ⟨hx1,?_⟩
  rintro rfl
  have:=hnd
  rw [hrev,yn] at this
  exact this.1 hx
 have hall : ∀ y,y ∈ o → y ≠ (root : Int) → y ∈ l0.reverse:=fun y hy hn => by
  rw [hl0] at hy
  simp only [yg,yd] at hy
  exact ym.2 (hy.resolve_right hn)
 have hsum : (l0.reverse.map (wgt pos 64 (zkw succ.length root))).sum < 5000:=by
  have hle : ∀ l : List Int,(l.map (wgt pos 64 (zkw succ.length root))).sum ≤ 64 * l.length:=by
   intro l
   induction l with
   | nil => simp
   | cons x l ih =>
     simp only [yB,yC,yl]
     have : wgt pos 64 (zkw succ.length root) x ≤ 64:=by
      unfold wgt
      rw [htf]
      by_cases c : x = (root : Int)
      ·rw [if_pos c,if_neg (by omega)]
       have:=hlow _ hri
       omega
      ·rw [if_neg c,if_pos rfl]
       exact yw _
     omega
  have h1:=hle l0.reverse
  have h2 : l0.reverse.length ≤ 64:=by
   rw [hl0] at hlen
   simp at hlen ⊢
   omega
  omega
 obtain ⟨t,h1,h2,h3,h4⟩:=zAU H hO hal hat (fun x hx p => zl0 hr (hO x hx) p) (fun x hx p hp' => by
  have:=(zl0 hr (hO x hx) p).1 hp'
  exact ⟨this.1,this.2.1⟩) (K:=200) (M:=64) (fun a ha => by have:=hlow a ha; omega) (fun a ha => by have:=hlow a ha; omega) l0.reverse htail (yy.1 hpw).2 hall 5000 (zkw succ.length root) (by simp [zkw]) I hsum
 refine ⟨o,root,l0.reverse,t,(· ∈ o),pos,ho,hrev,hO,hlen,by rw [← hat']; exact h1,⟨h2,H,hO,h3,h4,hlow,fun a => ⟨fun ha => L.rch a ha,fun ⟨l,w⟩ => (zvE H w).1⟩⟩,fun _ => Iff.rfl⟩
end AC

/- A part of the proof of AliasBoth. Conditions: none. -/
import Derived.Test.YtmkncmffaaninaaGreatAAV
set_option linter.all false
open List renaming mem_cons_self → ya,mem_cons_of_mem → yb,mem_singleton → yc,mem_cons → yd,getD_eq_getElem?_getD → ye,mem_append → yf,append_inj_right' → yg,getElem?_replicate → yh,mem_of_getElem? → yk,length_cons → yl,length_append → ym,not_mem_nil → yn,eq_nil_or_concat → yo,append_inj_left' → yp,nodup_cons → yq,getElem?_drop → yr,nodup_append → ys,cons_append → yt,map_cons → yu,sum_cons → yv
open Nat renaming le_refl → yi
namespace Dm
section
variable (E : Int → Int → Prop) (root : Int)
inductive Way : Int → List Int → Prop
 | root : Way root [root]
 | step {p x : Int} {l : List Int} : Way p l → E p x → Way x (x :: l)
def Dom (d x : Int) : Prop:=∀ l,Way E root x l → d ∈ l
structure Ord (O : Int → Prop) (pos : Int → Nat) : Prop where
 rt : O root
 inj : ∀ a b,O a → O b → pos a = pos b → a = b
 low : ∀ a,O a → pos root ≤ pos a
 par : ∀ x,O x → x ≠ root → ∃ p,O p ∧ E p x ∧ pos p < pos x
 cl : ∀ p x,O p → E p x → O x
inductive Inc (pos : Int → Nat) : Int → Int → Prop
 | refl (a : Int) : Inc pos a a
 | step {a p x : Int} : Inc pos a p → E p x → pos p < pos x → Inc pos a x
inductive Anc (T : Int → Int) : Int → Int → Prop
 | refl (x : Int) : Anc T x x
 | step {y x : Int} : x ≠ root → Anc T y (T x) → Anc T y x
def Com (T : Int → Int) (x y : Int) : Prop:=∀ p,E p x → T p ≠ -2 → Anc root T y p
def St (T : Int → Int) (x : Int) : Prop:=T x ≠ -2 ∧ ∀ y,Anc root T y (T x) ↔ Com E root T x y
structure Inv (O : Int → Prop) (pos : Int → Nat) (T : Int → Int) : Prop where
 out : ∀ x,¬ O x → T x = -2
 rt : T root = root
 nn : ∀ x,O x → x ≠ -2
 par : ∀ x,x ≠ root → T x ≠ -2 → T (T x) ≠ -2 ∧ pos (T x) < pos x
 A : ∀ x d,x ≠ root → T x ≠ -2 → Dom E root d x → d ≠ x → Dom E root d (T x)
 P : ∀ x,x ≠ root → T x ≠ -2 → Inc E pos (T x) x
 B : ∀ x,x ≠ root → T x ≠ -2 → ∀ y,Com E root T x y → pos y ≤ pos (T x)
end
variable {E : Int → Int → Prop} {root : Int} {O : Int → Prop} {pos : Int → Nat}
section
variable (H : Ord E root O pos)
include H
theorem zti {x : Int} {l : List Int} (h : Way E root x l) : O x ∧ ∀ y ∈ l,O y:=by
 induction h with
 | root => exact ⟨H.rt,fun y a => by rw [yc.1 a]; exact H.rt⟩
 | step h e ih =>
   have:=H.cl _ _ ih.1 e;refine ⟨this,fun y a => ?_⟩;rcases yd.1 a with rfl | a
   ·exact this
   ·exact ih.2 y a
theorem zAe : ∀ (n : Nat) (x : Int),pos x ≤ n → O x → ∃ l,Way E root x l ∧ ∀ y ∈ l,y = x ∨ pos y < pos x:=by
 intro n
 induction n with
 | zero =>
   intro x g b
   by_cases c : x = root
   ·subst c
    exact ⟨_,.root,fun y a => .inl (yc.1 a)⟩
   ·obtain ⟨p,_,_,h⟩:=H.par x b c
    omega
 | succ n ih =>
   intro x g b
   by_cases c : x = root
   ·subst c
    exact ⟨_,.root,fun y a => .inl (yc.1 a)⟩
   ·obtain ⟨p,d,e,h⟩:=H.par x b c
    obtain ⟨l,w,f⟩:=ih p (by omega) d;refine ⟨_,.step w e,fun y a => ?_⟩;rcases yd.1 a with rfl | a
    ·exact .inl rfl
    ·rcases f y a with rfl | i
     ·exact .inr h
     ·exact .inr (by omega)
theorem zql {d x : Int} (b : O x) (h : Dom E root d x) : d = x ∨ pos d < pos x:=by
 obtain ⟨l,w,a⟩:=zAe H _ x (yi _) b;exact a d (h l w)
theorem zC6 {d x : Int} (a : O x) (h : Dom E root d x) : O d:=by
 obtain ⟨l,w,b⟩:=zAe H _ x (yi _) a;exact (zti H w).2 d (h l w)
end
theorem ztu {d p x : Int} (e : E p x) (h : Dom E root d x) (hd : d ≠ x) : Dom E root d p:=by
 intro l w;rcases yd.1 (h _ (.step w e)) with h | h
 ·exact absurd h hd
 ·exact h
theorem zyw (x : Int) : Dom E root x x:=by
 intro l w
 cases w with
 | root => simp
 | step => simp
theorem zAK {a b : Int} (h : Inc E pos a b) : a = b ∨ pos a < pos b:=by
 induction h with
 | refl => exact .inl rfl
 | step h e l c => rcases c with rfl | c <;> right <;> omega
theorem zwI {a b c : Int} (h : Inc E pos a b) (k : Inc E pos b c) : Inc E pos a c:=by
 induction k with
 | refl => exact h
 | step k e l ih => exact .step ih e l
theorem zwz {T : Int → Int} {a b c : Int} (h : Anc root T a b) (k : Anc root T b c) : Anc root T a c:=by
 induction k with
 | refl => exact h
 | step n k ih => exact .step n ih
theorem zlB {T : Int → Int} {y x : Int} (h : Anc root T y x) (a : y ≠ x) : x ≠ root ∧ Anc root T y (T x):=by
 cases h with
 | refl => exact absurd rfl a
 | step n h => exact ⟨n,h⟩
section
variable (H : Ord E root O pos) {T : Int → Int} (I : Inv E root O pos T)
include H I
theorem zg5 {x : Int} (h : T x ≠ -2) : O x:=by
 by_cases c : O x
 ·exact c
 ·exact absurd (I.out x c) h
theorem zAa : T root ≠ -2:=by rw [I.rt]; exact I.nn _ H.rt
theorem zA1 {y x : Int} (h : Anc root T y x) (b : T x ≠ -2) : T y ≠ -2 ∧ (y = x ∨ pos y < pos x):=by
 induction h with
 | refl => exact ⟨b,.inl rfl⟩
 | step n h ih =>
   obtain ⟨e,c⟩:=I.par _ n b;obtain ⟨d,a⟩:=ih e;refine ⟨d,.inr ?_⟩;rcases a with a | a
   ·rw [a]; exact c
   ·omega
theorem zqs {y x : Int} (h : Anc root T y x) (a : T x ≠ -2) : pos y ≤ pos x:=by
 rcases (zA1 H I h a).2 with rfl | h <;> omega
theorem zzR {d m x : Int} (h : Anc root T m x) (b : T x ≠ -2) (hd : Dom E root d x) (hm : Anc root T d m) : Dom E root d m:=by
 induction h with
 | refl => exact hd
 | step n h ih =>
   rename_i e;obtain ⟨a,c⟩:=I.par _ n b;refine ih a (I.A _ _ n b hd ?_);rintro rfl;have a1:=zqs H I h a;have a2:=zqs H I hm (zA1 H I h a).1;omega
theorem zxP : ∀ (n : Nat) (x d : Int),pos x ≤ n → T x ≠ -2 → Dom E root d x → Anc root T d x:=by
 intro n
 induction n with
 | zero =>
   intro x d e a hd
   by_cases c : d = x
   ·subst c; exact .refl _
   ·rcases zql H (zg5 H I a) hd with h | h
    ·exact absurd h c
    ·omega
 | succ n ih =>
   intro x d e a hd
   by_cases c : d = x
   ·subst c; exact .refl _
   ·have b : x ≠ root:=by
     rintro rfl;rcases zql H H.rt hd with h | h
     ·exact c h
     ·have:=H.low d (zC6 H H.rt hd)
      omega
    obtain ⟨f,g⟩:=I.par _ b a;exact .step b (ih _ _ (by omega) f (I.A _ _ b a hd c))
theorem zCn {a b : Int} (h : Inc E pos a b) (c : O a) : O b:=by
 induction h with
 | refl => exact c
 | step h e l ih => exact H.cl _ _ ih e
theorem zAX {y x : Int} (h : Anc root T y x) (a : T x ≠ -2) : Inc E pos y x:=by
 induction h with
 | refl => exact .refl _
 | step n h ih => exact zwI (ih (I.par _ n a).1) (I.P _ n a)
section
variable {z : Int} (hst : ∀ y,O y → y ≠ root → pos y < pos z → St E root T y)
include hst
theorem zp7 {y : Int} (h : O y) (a : pos y < pos z) : T y ≠ -2:=by
 by_cases c : y = root
 ·rw [c]; exact zAa H I
 ·exact (hst y h c a).1
theorem zCp {a v y : Int} (h : Inc E pos a v) (i : O a) (j : pos v < pos z) (c : Anc root T y v) (k : pos y ≤ pos a) : Anc root T y a:=by
 induction h with
 | refl => exact c
 | step h e l ih =>
   rename_i p v;have d:=zCn H I h i
   have hle : pos a ≤ pos p:=(by rcases zAK h with rfl | h <;> omega);have b : y ≠ v:=(by rintro rfl; omega);obtain ⟨g,f⟩:=zlB c b;have hs:=hst v (H.cl _ _ d e) g j;exact ih (by omega) ((hs.2 y).1 f p e (zp7 H I hst d (by omega)))
theorem key {y : Int} (c : z ≠ root) (a : T z ≠ -2) (i : Com E root T z y) : Anc root T y (T z):=by
 have g:=I.P z c a;have f:=I.B z c a y i;obtain ⟨k,j⟩:=I.par z c a;have d:=zg5 H I k;generalize hw : T z = w at g f j d
 cases g with
 | refl => omega
 | step h e l =>
   have b:=zCn H I h d;exact zCp H I hst h d l (i _ e (zp7 H I hst b l)) f
end
end
structure Upd (E : Int → Int → Prop) (root : Int) (O : Int → Prop) (pos : Int → Nat) (T T' : Int → Int) (z m : Int) : Prop where
 at' : T' z = m
 ne : ∀ x,x ≠ z → T' x = T x
 oz : O z
 hr : z ≠ root
 st : ∀ y,O y → y ≠ root → pos y < pos z → St E root T y
 hm : T m ≠ -2
 best : ∀ y,Anc root T y m ↔ Com E root T z y
 new : m ≠ T z
section
variable (H : Ord E root O pos) {T T' : Int → Int} (I : Inv E root O pos T) {z m : Int} (U : Upd E root O pos T T' z m)
include H I U
theorem zpF : ∃ p,E p z ∧ T p ≠ -2 ∧ pos p < pos z ∧ Anc root T m p:=by
 obtain ⟨p,d,a,c⟩:=H.par z U.oz U.hr;have b:=zp7 H I U.st d c;exact ⟨p,a,b,c,(U.best m).1 (.refl _) p a b⟩
theorem zAO : pos m < pos z ∧ m ≠ -2 ∧ m ≠ z:=by
 obtain ⟨p,d,a,c,b⟩:=zpF H I U;have:=zqs H I b a;refine ⟨by omega,I.nn _ (zg5 H I U.hm),?_⟩;rintro rfl;omega
theorem ztY {x : Int} (h : T x ≠ -2) : T' x ≠ -2:=by
 by_cases c : x = z
 ·rw [c,U.at']; exact (zAO H I U).2.1
 ·rw [U.ne x c]; exact h
theorem shrink {y x : Int} (h : Anc root T' y x) (a : T x ≠ -2) : Anc root T y x:=by
 induction h with
 | refl => exact .refl _
 | step n h ih =>
   rename_i x
   by_cases c : x = z
   ·subst c
    rw [U.at'] at h ih;have b:=ih U.hm;exact .step n (zwz b (key H I U.st n a ((U.best m).1 (.refl _))))
   ·rw [U.ne x c] at h ih
    exact .step n (ih (I.par _ n a).1)
theorem zvX (a : T z ≠ -2) : pos m < pos (T z):=by
 have h:=key H I U.st U.hr a ((U.best m).1 (.refl _));have b:=(I.par z U.hr a).1;rcases (zA1 H I h b).2 with h | h
 ·exact absurd h U.new
 ·exact h
theorem zAl : Inv E root O pos T':=by
 obtain ⟨m1,m2,s⟩:=zAO H I U;have g:=U.oz;have b : ∀ x y,Com E root T' x y → (Com E root T x y):=fun x y h p e r => shrink H I U (h p e (ztY H I U r)) r;refine ⟨fun x a => ?_,?_,I.nn,fun x hr a => ?_,fun x d hr a hd i => ?_,fun x hr a => ?_,fun x hr a y n => ?_⟩
 ·rw [U.ne x (by rintro rfl; exact a g)]; exact I.out x a
 ·rw [U.ne _ (fun h => U.hr h.symm)]; exact I.rt
 ·by_cases c : x = z
  ·subst c
   rw [U.at',U.ne m s];exact ⟨U.hm,m1⟩
  ·rw [U.ne x c] at a ⊢
   exact ⟨ztY H I U (I.par x hr a).1,(I.par x hr a).2⟩
 ·by_cases c : x = z
  ·subst c
   rw [U.at'];obtain ⟨p,j,f,o,l⟩:=zpF H I U;have k : Anc root T d m:=(U.best d).2 fun q e t => zxP H I _ q d (yi _) t (ztu e hd i);exact zzR H I l f (ztu j hd i) k
  ·rw [U.ne x c] at a ⊢
   exact I.A x d hr a hd i
 ·by_cases c : x = z
  ·subst c
   rw [U.at'];obtain ⟨p,j,f,o,l⟩:=zpF H I U;exact .step (zAX H I l f) j o
  ·rw [U.ne x c] at a ⊢
   exact I.P x hr a
 ·by_cases c : x = z
  ·subst c
   rw [U.at'];exact zqs H I ((U.best y).2 (b _ _ n)) U.hm
  ·rw [U.ne x c] at a ⊢
   exact I.B x hr a y (b _ _ n)
end
section
variable (H : Ord E root O pos) {T : Int → Int} (I : Inv E root O pos T) (hs : ∀ x,O x → x ≠ root → St E root T x)
include H I hs
theorem zAL {x : Int} (h : O x) : T x ≠ -2:=by
 by_cases c : x = root
 ·rw [c]; exact zAa H I
 ·exact (hs x h c).1
theorem zAk {x : Int} {l : List Int} (w : Way E root x l) : ∀ y,Anc root T y x → y ∈ l:=by
 induction w with
 | root =>
   intro y h
   by_cases c : y = root
   ·simp [c]
   ·exact absurd rfl (zlB h c).1
 | step w e ih =>
   rename_i p x l;intro y h
   by_cases c : y = x
   ·simp [c]
   ·obtain ⟨d,b⟩:=zlB h c
    have a:=(zti H w).1;have:=(hs x (H.cl _ _ a e) d).2 y |>.1 b p e (zAL H I hs a);exact yb _ (ih y this)
theorem zsN {d x : Int} (a : O x) : Anc root T d x ↔ Dom E root d x :=
 ⟨fun h l w => zAk H I hs w d h,fun h => zxP H I _ x d (yi _) (zAL H I hs a) h⟩
end
end Dm
namespace AC
open Dm
theorem zuh {t : List Int} {x y : Int} (b : Int) (d : 0 ≤ x ∧ x < t.length) (a : 0 ≤ y) : tr (t.set x.toNat b) y = if y = x then b else tr t y:=by
 unfold tr
 by_cases c : y = x
 ·subst c
  rw [if_pos rfl,zaN _ _ (by omega)]
 ·rw [if_neg c,getD_set_ne _ _ (by omega)]
def tf (t : List Int) (x : Int) : Int:=if 0 ≤ x then tr t x else -2
theorem zsP {t : List Int} {x : Int} (h : 0 ≤ x) : tf t x = tr t x:=by unfold tf; rw [if_pos h]
theorem ztQ {n : Nat} {a : Int} (h : 0 ≤ a ∧ a < (n : Int)) : inR n a = true:=by simp [inR,h.1,h.2]
section
variable {E : Int → Int → Prop} {root : Int} {O : Int → Prop} {pos : Int → Nat} {n : Nat} {at' : List Int}
variable (H : Ord E root O pos) (hO : ∀ a,O a → 0 ≤ a ∧ a < (n : Int)) (hal : at'.length = n) (hat : ∀ a,O a → tr at' a = (pos a : Int))
section
variable {t : List Int} (htl : t.length = n) (I : Inv E root O pos (tf t))
include H hO hal hat htl I
theorem zou {b : Int} (m : tf t b ≠ -2) : ∀ (r : Nat) (a : Int),tf t a ≠ -2 → pos a < r → ∃ c,zng t at' r a b = some c ∧ tf t c ≠ -2 ∧ pos c ≤ pos b ∧ pos c ≤ pos a ∧ (pos b < pos a → pos c < pos a) ∧ (∀ y,(Anc root (tf t) y a ∧ Anc root (tf t) y b) ↔ (Anc root (tf t) y c ∧ Anc root (tf t) y b)):=by
 intro r
 induction r with
 | zero => intro a _ h; omega
 | succ r ih =>
   intro a j x;have n:=zg5 H I j;have g:=zg5 H I m;have l:=hO a n;have rb:=hO b g
   have e : (inR t.length a && (inR at'.length a && inR at'.length b)) = true:=by
    rw [htl,hal,ztQ l,ztQ rb];rfl
   rw [zng,if_pos e,hat a n,hat b g]
   by_cases c : pos b < pos a
   ·rw [if_pos (by omega)]
    have k : a ≠ root:=by
     rintro rfl;have:=H.low b g;omega
    obtain ⟨p1,p2⟩:=I.par a k j;have i:=zsP (t:=t) l.1;rw [i] at p1 p2;obtain ⟨s,u,p,q,z,w,v⟩:=ih (tr t a) p1 (by omega);refine ⟨s,u,p,q,by omega,fun _ => by omega,fun y => ?_⟩;rw [← v y];constructor
    ·rintro ⟨o,d⟩
     refine ⟨?_,d⟩
     have f : y ≠ a:=by
      rintro rfl;have:=zqs H I d m;omega
     have:=(zlB o f).2
     rwa [i] at this
    ·rintro ⟨o,d⟩
     exact ⟨.step k (by rwa [i]),d⟩
   ·rw [if_neg (by omega)]
    exact ⟨a,rfl,j,by omega,yi _,fun h => absurd h c,fun _ => Iff.rfl⟩
theorem zwW {K : Nat} (m : ∀ a,O a → pos a < K) : ∀ (r : Nat) (a b : Int),tf t a ≠ -2 → tf t b ≠ -2 → pos a + pos b < r → ∃ c,zqC t at' K r a b = some c ∧ tf t c ≠ -2 ∧ ∀ y,Anc root (tf t) y c ↔ Anc root (tf t) y a ∧ Anc root (tf t) y b:=by
 intro r
 induction r with
 | zero => intro a b _ _ h; omega
 | succ r ih =>
   intro a b i e J;rw [zqC]
   by_cases c : a = b
   ·subst c
    rw [if_pos rfl];exact ⟨a,rfl,i,fun y => ⟨fun h => ⟨h,h⟩,fun h => h.1⟩⟩
   ·rw [if_neg c]
    have E : pos a ≠ pos b:=fun h => c (H.inj a b (zg5 H I i) (zg5 H I e) h);obtain ⟨v,s,k,A,L,D,n⟩:=zou H hO hal hat htl I e K a i (m a (zg5 H I i));obtain ⟨z,x,u,B,G,C,l⟩:=zou H hO hal hat htl I k K b e (m b (zg5 H I e));rw [s];simp only [x];obtain ⟨q,w,p,o⟩:=ih v z k u (by omega);refine ⟨q,w,p,fun y => ?_⟩;rw [o y];constructor
    ·rintro ⟨f,d⟩
     have g:=(l y).2 ⟨d,f⟩;have j:=(n y).2 ⟨f,g.1⟩;exact j
    ·rintro ⟨f,d⟩
     have g:=(n y).1 ⟨f,d⟩;have j:=(l y).1 ⟨d,g.1⟩;exact ⟨g.1,j.1⟩
theorem zjC {K : Nat} (s : ∀ a,O a → 2 * pos a < K) : ∀ (ps : List Int) (b : Int),(∀ p ∈ ps,0 ≤ p ∧ p < (n : Int)) → (b = -2 ∨ tf t b ≠ -2) → ∃ c,zjy t at' K ps b = some c ∧ ((c = -2 ∧ b = -2 ∧ ∀ p ∈ ps,tf t p = -2) ∨ (tf t c ≠ -2 ∧ ∀ y,Anc root (tf t) y c ↔ (∀ p ∈ ps,tf t p ≠ -2 → Anc root (tf t) y p) ∧ (b ≠ -2 → Anc root (tf t) y b)))
 | [],b,_,r => by
   refine ⟨b,rfl,?_⟩;rcases r with rfl | r
   ·exact .inl ⟨rfl,rfl,by simp⟩
   ·exact .inr ⟨r,fun y => ⟨fun h => ⟨by simp,fun _ => h⟩,fun h => h.2 (I.nn _ (zg5 H I r))⟩⟩
 | p :: ps,b,hp,r => by
   have z:=hp p ya;have o:=fun q e => hp q (yb _ e);rw [zjy,if_pos (by rw [htl]; exact ztQ z)];have B:=zsP (t:=t) z.1
   by_cases c : tr t p = -2
   ·rw [if_pos c]
    obtain ⟨w,x,u⟩:=zjC s ps b o r;refine ⟨w,x,?_⟩;rcases u with ⟨l,k,A⟩ | ⟨l,k⟩
    ·refine .inl ⟨l,k,fun q e => ?_⟩
     rcases yd.1 e with rfl | e
     ·rw [B]; exact c
     ·exact A q e
    ·refine .inr ⟨l,fun y => ?_⟩
     rw [k y];constructor
     ·rintro ⟨g,j⟩
      refine ⟨fun q e f => ?_,j⟩;rcases yd.1 e with rfl | e
      ·rw [B] at f; exact absurd c f
      ·exact g q e f
     ·rintro ⟨g,j⟩
      exact ⟨fun q e f => g q (yb _ e) f,j⟩
   ·rw [if_neg c]
    have i : tf t p ≠ -2:=by rw [B]; exact c
    by_cases d : b = -2
    ·rw [if_pos d]
     obtain ⟨w,x,u⟩:=zjC s ps p o (.inr i);refine ⟨w,x,?_⟩;rcases u with ⟨l,k,A⟩ | ⟨l,k⟩
     ·have:=z.1
      omega
     ·refine .inr ⟨l,fun y => ?_⟩
      rw [k y];constructor
      ·rintro ⟨g,j⟩
       refine ⟨fun q e f => ?_,fun h => absurd d h⟩;rcases yd.1 e with rfl | e
       ·exact j (by have:=z.1; omega)
       ·exact g q e f
      ·rintro ⟨g,j⟩
       exact ⟨fun q e f => g q (yb _ e) f,fun _ => g p ya i⟩
    ·rw [if_neg d]
     have v : tf t b ≠ -2:=r.resolve_left d;obtain ⟨m,m1,m2,C⟩:=zwW H hO hal hat htl I (K:=K) (fun a E => by have:=s a E; omega) K b p v i (by have:=s b (zg5 H I v); have:=s p (zg5 H I i); omega);rw [m1];obtain ⟨w,x,u⟩:=zjC s ps m o (.inr m2);refine ⟨w,x,?_⟩;rcases u with ⟨l,k,A⟩ | ⟨l,k⟩
     ·rw [k] at m2
      exact absurd rfl (I.nn _ (zg5 H I m2))
     ·refine .inr ⟨l,fun y => ?_⟩
      rw [k y];constructor
      ·rintro ⟨g,j⟩
       have D:=(C y).1 (j (I.nn _ (zg5 H I m2)));refine ⟨fun q e f => ?_,fun _ => D.1⟩;rcases yd.1 e with rfl | e
       ·exact D.2
       ·exact g q e f
      ·rintro ⟨g,j⟩
       exact ⟨fun q e f => g q (yb _ e) f,fun _ => (C y).2 ⟨j d,g p ya i⟩⟩
end
variable {pred : List (List Int)} (hpr : ∀ x,O x → ∀ p,p ∈ pred.getD x.toNat [] ↔ E p x) (hpn : ∀ x,O x → ∀ p ∈ pred.getD x.toNat [],0 ≤ p ∧ p < (n : Int))
section
variable {t : List Int} (htl : t.length = n) (I : Inv E root O pos (tf t))
include H hO hal hat hpr hpn htl I
theorem zqP {K : Nat} (A : ∀ a,O a → 2 * pos a < K) : ∀ (l : List Int),(∀ x ∈ l,O x ∧ x ≠ root) → l.Pairwise (fun a b => pos a < pos b) → (∀ y,O y → y ≠ root → y ∉ l → (∀ x ∈ l,pos y < pos x) → St E root (tf t) y) → (∀ y,O y → y ≠ root → y ∉ l → (∀ x ∈ l,pos y < pos x) ∨ False) →
  (zpA pred t at' K l = some none ∧ ∀ x ∈ l,St E root (tf t) x) ∨ (∃ x b,zpA pred t at' K l = some (some (x,b)) ∧ x ∈ l ∧ Upd E root O pos (tf t) (tf (t.set x.toNat b)) x b)
 | [],_,_,_,_ => .inl ⟨rfl,by simp⟩
 | x :: l,hl,hs,hst,hall => by
   obtain ⟨m,n⟩:=hl x ya;have rx:=hO x m;have k:=List.pairwise_cons.1 hs
   have early : ∀ y,O y → y ≠ root → pos y < pos x → St E root (tf t) y:=fun y i f q => by
    have g : y ∉ x :: l:=by
     intro h;rcases yd.1 h with rfl | h
     ·omega
     ·have:=k.1 y h; omega
    exact hst y i f g ((hall y i f g).resolve_right id)
   obtain ⟨c,i,f⟩:=zjC H hO hal hat htl I A (pred.getD x.toNat []) (-2) (hpn x m) (.inl rfl);rcases f with ⟨v,B,J⟩ | ⟨v,B⟩
   ·obtain ⟨p,M,G,D⟩:=H.par x m n
    have:=J p ((hpr x m p).2 G);exact absurd this (zp7 H I early M D)
   ·have o : ∀ y,Anc root (tf t) y c ↔ Com E root (tf t) x y:=fun y => by
     rw [B y];constructor
     ·rintro ⟨w,_⟩ p e u
      exact w p ((hpr x m p).2 e) u
     ·intro w
      exact ⟨fun p u g => w p ((hpr x m p).1 u) g,fun h => absurd rfl h⟩
    have ex:=zsP (t:=t) rx.1;rw [zpA,if_pos (by rw [htl]; exact ztQ rx),i];simp only
    by_cases d : tr t x = c
    ·rw [if_pos d]
     have C : St E root (tf t) x:=by
      refine ⟨?_,fun y => ?_⟩
      ·rw [ex,d]
       exact I.nn _ (zg5 H I v)
      ·rw [ex,d]
       exact o y
     have:=zqP A l (fun y j => hl y (yb _ j)) k.2 (fun y i f q P => ?_) (fun y i f q => ?_)
     ·rcases this with ⟨s,r⟩ | ⟨y,b,s,r,N⟩
      ·refine .inl ⟨s,fun y j => ?_⟩
       rcases yd.1 j with rfl | j
       ·exact C
       ·exact r y j
      ·exact .inr ⟨y,b,s,yb _ r,N⟩
     ·by_cases e : y = x
      ·rw [e]; exact C
      ·have g : y ∉ x :: l:=fun h => (yd.1 h).elim e q
       exact hst y i f g ((hall y i f g).resolve_right id)
     ·by_cases e : y = x
      ·rw [e]; exact .inl k.1
      ·have g : y ∉ x :: l:=fun h => (yd.1 h).elim e q
       exact .inl fun z L => ((hall y i f g).resolve_right id) z (yb _ L)
    ·rw [if_neg d]
     refine .inr ⟨x,c,rfl,ya,?_,fun y j => ?_,m,n,early,v,o,?_⟩
     ·rw [zsP rx.1,zuh c (by rw [htl]; exact rx) rx.1,if_pos rfl]
     ·unfold tf
      by_cases e : 0 ≤ y
      ·rw [if_pos e,if_pos e,zuh c (by rw [htl]; exact rx) e,if_neg j]
      ·rw [if_neg e,if_neg e]
     ·rw [ex]
      exact fun h => d h.symm
end
def wgt (pos : Int → Nat) (M : Nat) (t : List Int) (x : Int) : Nat:=if tf t x = -2 then M else pos (tf t x)
theorem zB1 {l : List Int} {f g : Int → Nat} (h : ∀ x ∈ l,g x ≤ f x) {z : Int} (c : z ∈ l) (i : g z < f z) : (l.map g).sum < (l.map f).sum:=by
 induction l with
 | nil => cases c
 | cons a l ih =>
   have le : ∀ l : List Int,(∀ x ∈ l,g x ≤ f x) → (l.map g).sum ≤ (l.map f).sum:=by
    intro l
    induction l with
    | nil => intro _; exact yi _
    | cons b l ih =>
      intro h;have j:=h b ya;have k:=ih fun x d => h x (yb _ d);simp only [yu,yv];omega
   simp only [yu,yv];have j:=h a ya;have e:=fun x d => h x (yb a d);rcases yd.1 c with rfl | c
   ·have:=le l e
    omega
   ·have:=ih e c
    omega
include H hO hal hat hpr hpn in
theorem zyS {K M : Nat} (k : ∀ a,O a → 2 * pos a < K) (o : ∀ a,O a → pos a < M) (tail : List Int) (m : ∀ x ∈ tail,O x ∧ x ≠ root) (l : tail.Pairwise (fun a b => pos a < pos b)) (e : ∀ y,O y → y ≠ root → y ∈ tail) :
  ∀ (r : Nat) (t : List Int),t.length = n → Inv E root O pos (tf t) → (tail.map (wgt pos M t)).sum < r → ∃ t',zeR pred at' K tail r t = some t' ∧ t'.length = n ∧ Inv E root O pos (tf t') ∧ ∀ x,O x → x ≠ root → St E root (tf t') x:=by
 intro r
 induction r with
 | zero => intro t _ _ h; omega
 | succ r ih =>
   intro t htl I s;rw [zeR];rcases zqP H hO hal hat hpr hpn htl I k tail m l (fun y g f i => absurd (e y g f) i) (fun y g f i => absurd (e y g f) i) with ⟨g,f⟩ | ⟨x,b,g,f,U⟩
   ·rw [g]
    exact ⟨t,rfl,htl,I,fun x i p => f x (e x i p)⟩
   ·rw [g]
    refine ih _ (by simp [htl]) (zAl H I U) ?_
    have key : (tail.map (wgt pos M (t.set x.toNat b))).sum < (tail.map (wgt pos M t)).sum:=by
     obtain ⟨m1,m2,q⟩:=zAO H I U;have j:=o b (zg5 H I U.hm);refine zB1 (fun y _ => ?_) f ?_
     ·by_cases c : y = x
      ·subst c
       unfold wgt;rw [U.at',if_neg m2];split
       ·omega
       ·rename_i d
        exact Nat.le_of_lt (zvX H I U d)
      ·unfold wgt
       rw [U.ne y c];exact yi _
     ·unfold wgt
      rw [U.at',if_neg m2];split
      ·exact j
      ·rename_i d
       exact zvX H I U d
    omega
end
def Eg (succ : List (List Int)) (p x : Int) : Prop:=0 ≤ p ∧ p < (succ.length : Int) ∧ x ∈ succ.getD p.toNat []
section
variable (succ : List (List Int)) (root : Int)
def zCY : List Int → Prop
 | [] => False
 | [x] => x = root
 | x :: y :: s => Eg succ y x ∧ zCY (y :: s)
structure DS (d : DF) : Prop where
 sl : d.seen.length = 64
 nl : d.next.length = 64
 rng : ∀ x,x ∈ d.stk ∨ x ∈ d.out → 0 ≤ x ∧ x < (succ.length : Int)
 mem : ∀ x,0 ≤ x → x < (succ.length : Int) → (d.seen.getD x.toNat false = true ↔ x ∈ d.stk ∨ x ∈ d.out)
 nd : (d.stk ++ d.out).Nodup
 bk : zCY succ root d.stk
 cl : ∀ x ∈ d.out,∀ y,Eg succ x y → y ∈ d.stk ∨ y ∈ d.out
 nx : ∀ x ∈ d.stk,∀ j y,j < d.next.getD x.toNat 0 → (succ.getD x.toNat [])[j]? = some y → y ∈ d.stk ∨ y ∈ d.out
 fr : ∀ x,0 ≤ x → x < (succ.length : Int) → ¬ (x ∈ d.stk ∨ x ∈ d.out) → d.next.getD x.toNat 0 = 0
 par : ∀ l1 x l2,d.out = l1 ++ x :: l2 → ∃ p,Eg succ p x ∧ (p ∈ l2 ∨ p ∈ d.stk)
 rch : ∀ x,x ∈ d.stk ∨ x ∈ d.out → ∃ l,Way (Eg succ) root x l
end
theorem zqX {seen : List Bool} : ∀ {l : List Int} {k : Nat} {y : Int} {j : Nat},scan seen l k = some (y,j) → ∃ i,j = k + i + 1 ∧ l[i]? = some y ∧ seen.getD y.toNat false = false ∧ ∀ i' z,i' < i → l[i']? = some z → seen.getD z.toNat false = true
 | [],_,_,_,h => by simp [scan] at h
 | z :: r,k,y,j,h => by
   simp only [scan] at h;split at h
   ·rename_i c
    obtain ⟨i,d,h2,h3,b⟩:=zqX h;refine ⟨i + 1,by omega,by simpa using h2,h3,fun i' w a hw => ?_⟩
    cases i' with
    | zero => simp at hw; rw [← hw]; exact c
    | succ i' => exact b i' w (by omega) (by simpa using hw)
   ·rename_i c
    simp only [Option.some.injEq,Prod.mk.injEq] at h;obtain ⟨rfl,rfl⟩:=h;exact ⟨0,by omega,rfl,by simpa using c,fun i' w a => by omega⟩
theorem zry {seen : List Bool} : ∀ {l : List Int} {k : Nat},scan seen l k = none → ∀ z ∈ l,seen.getD z.toNat false = true
 | [],_,_ => by simp
 | z :: r,k,h => by
   simp only [scan] at h;split at h
   ·rename_i c
    intro w hw;rcases yd.1 hw with rfl | hw
    ·exact c
    ·exact zry h w hw
   ·cases h
theorem zf0 {l : List Int} {n : Nat} (hd : l.Nodup) (h : ∀ x ∈ l,0 ≤ x ∧ x < (n : Int)) : l.length ≤ n:=by
 have:=hd.length_le_of_subset (l₂:=(List.range n).map fun i : Nat => (i : Int)) (fun x a => by
  obtain ⟨b,h2⟩:=h x a
  exact List.mem_map.2 ⟨x.toNat,List.mem_range.2 (by omega),by omega⟩)
 simpa using this
section
variable {succ : List (List Int)} {root : Int} (hn : succ.length ≤ 64) (hr : ∀ l ∈ succ,∀ y ∈ l,0 ≤ y ∧ y < (succ.length : Int))
include hr in
theorem ztz {x y : Int} (h : Eg succ x y) : 0 ≤ y ∧ y < (succ.length : Int):=by
 obtain ⟨b,h2,h3⟩:=h;have a : x.toNat < succ.length:=by omega
 rw [ye,List.getElem?_eq_getElem a] at h3;exact hr _ (List.getElem_mem a) y h3
include hn hr
theorem zAG {d : DF} (D : DS succ root d) {x : Int} {s : List Int} (hs : d.stk = x :: s) {y : Int} {j : Nat} (h : zd9 succ d x = some (y,j)) :
  DS succ root ⟨d.seen.set y.toNat true,d.next.set x.toNat j,d.out,y :: x :: s⟩ ∧ ¬ (y ∈ d.stk ∨ y ∈ d.out) ∧ 0 ≤ y ∧ y < (succ.length : Int):=by
 obtain ⟨i,rfl,h2,h3,u⟩:=zqX h;have rx:=D.rng x (.inl (by rw [hs]; exact ya));have g : (succ.getD x.toNat [])[d.next.getD x.toNat 0 + i]? = some y:=by simpa using h2
 have e : Eg succ x y:=⟨rx.1,rx.2,yk g⟩;have ry:=ztz hr e
 have b : ¬ (y ∈ d.stk ∨ y ∈ d.out):=fun hm => by
  have:=(D.mem y ry.1 ry.2).2 hm;rw [h3] at this;cases this
 have t : x ≠ y:=fun h => b (.inl (by rw [hs,← h]; exact ya));have n:=D.sl;have o:=D.nl
 have up : ∀ z,(z ∈ d.stk ∨ z ∈ d.out) → (z ∈ y :: x :: s ∨ z ∈ d.out):=fun z a => by
  rw [hs] at a;rcases a with a | a
  ·exact .inl (yb _ a)
  ·exact .inr a
 have dn : ∀ z,(z ∈ y :: x :: s ∨ z ∈ d.out) → z = y ∨ (z ∈ d.stk ∨ z ∈ d.out):=fun z a => by
  rw [hs];rcases a with a | a
  ·rcases yd.1 a with a | a
   ·exact .inl a
   ·exact .inr (.inl a)
  ·exact .inr (.inr a)
 refine ⟨⟨by simp [n],by simp [o],fun z a => ?_,fun z z0 m => ?_,?_,?_,fun z a w hw => up w (D.cl z a w hw),fun z a k w hk hw => ?_,fun z z0 m a => ?_,fun l1 z l2 hl => ?_,fun z a => ?_⟩,b,ry⟩
 ·rcases dn z a with rfl | a
  ·exact ry
  ·exact D.rng z a
 ·by_cases c : z = y
  ·subst c
   rw [zaN _ _ (by omega)];simp
  ·rw [getD_set_ne _ _ (by omega),D.mem z z0 m]
   exact ⟨up z,fun h => (dn z h).resolve_left c⟩
 ·show (y :: x :: s ++ d.out).Nodup
  have:=D.nd;rw [hs] at this;rw [yt,yq];refine ⟨fun hm => b ?_,this⟩;rw [hs];exact yf.1 hm
 ·show zCY succ root (y :: x :: s)
  have:=D.bk;rw [hs] at this;exact ⟨e,this⟩
 ·by_cases c : z = x
  ·subst c
   rw [zaN _ _ (by omega)] at hk
   by_cases c1 : k < d.next.getD z.toNat 0
   ·exact up w (D.nx z (by rw [hs]; exact ya) k w c1 hw)
   ·by_cases c2 : k = d.next.getD z.toNat 0 + i
    ·rw [c2,g] at hw
     injection hw with hw;exact .inl (by rw [← hw]; exact ya)
    ·have hd : ((succ.getD z.toNat []).drop (d.next.getD z.toNat 0))[k - d.next.getD z.toNat 0]? = some w:=by
      rw [yr]
      rwa [show d.next.getD z.toNat 0 + (k - d.next.getD z.toNat 0) = k by omega]
     have h5:=u _ w (by omega) hd;have rw':=ztz hr (⟨rx.1,rx.2,yk hw⟩ : Eg succ z w);exact up w ((D.mem w rw'.1 rw'.2).1 h5)
  ·rcases yd.1 a with rfl | a
   ·have c0 : z.toNat ≠ x.toNat:=by omega
    rw [getD_set_ne _ _ (fun h => c0 h.symm),D.fr z ry.1 ry.2 b] at hk;omega
   ·have f : z ∈ d.stk:=by rw [hs]; exact a
    have v:=D.rng z (.inl f);rw [getD_set_ne _ _ (by omega)] at hk;exact up w (D.nx z f k w hk hw)
 ·have q : ¬ (z ∈ d.stk ∨ z ∈ d.out):=fun h => a (up z h)
  have r : z ≠ x:=fun h => q (.inl (by rw [hs,h]; exact ya))
  show (d.next.set x.toNat _).getD z.toNat 0 = 0
  rw [getD_set_ne _ _ (by omega)];exact D.fr z z0 m q
 ·obtain ⟨p,h5,h6⟩:=D.par l1 z l2 hl
  refine ⟨p,h5,h6.imp id fun h => ?_⟩;rw [hs] at h;exact yb _ h
 ·rcases dn z a with rfl | a
  ·obtain ⟨l,w⟩:=D.rch x (.inl (by rw [hs]; exact ya))
   exact ⟨_,.step w e⟩
  ·exact D.rch z a
omit hn in
theorem zt3 {d : DF} (D : DS succ root d) {x : Int} {s : List Int} (hs : d.stk = x :: s) (h : zd9 succ d x = none) : ∀ y,Eg succ x y → y ∈ d.stk ∨ y ∈ d.out:=by
 intro y e;obtain ⟨k,hk⟩:=List.mem_iff_getElem?.1 e.2.2
 by_cases c : k < d.next.getD x.toNat 0
 ·exact D.nx x (by rw [hs]; exact ya) k y c hk
 ·have ry:=ztz hr e
  refine (D.mem y ry.1 ry.2).1 (zry h y (yk (i:=k - d.next.getD x.toNat 0) ?_));rw [yr]
  rwa [show d.next.getD x.toNat 0 + (k - d.next.getD x.toNat 0) = k by omega]
omit hn in
theorem zB8 {d : DF} (D : DS succ root d) {x z : Int} {s : List Int} (hs : d.stk = x :: z :: s) (h : zd9 succ d x = none) (m : Nat) :
  DS succ root ⟨d.seen,d.next.set x.toNat m,d.out ++ [x],z :: s⟩:=by
 have hall:=zt3 hr D hs h;have rx:=D.rng x (.inl (by rw [hs]; exact ya))
 have iff : ∀ w,(w ∈ z :: s ∨ w ∈ d.out ++ [x]) ↔ (w ∈ d.stk ∨ w ∈ d.out):=fun w => by
  rw [hs,yf,yc,yd (a:=w) (b:=x)];constructor
  ·rintro (h | h | h)
   ·exact .inl (.inr h)
   ·exact .inr h
   ·exact .inl (.inl h)
  ·rintro ((h | h) | h)
   ·exact .inr (.inr h)
   ·exact .inl h
   ·exact .inr (.inl h)
 have hnd:=D.nd;rw [hs,yt,yq] at hnd;have hxs : x ∉ z :: s:=fun hm => hnd.1 (List.mem_append_left _ hm);have hxo : x ∉ d.out:=fun hm => hnd.1 (List.mem_append_right _ hm);refine ⟨D.sl,by simp [D.nl],fun w hw => D.rng w ((iff w).1 hw),fun w w0 w1 => (D.mem w w0 w1).trans (iff w).symm,?_,?_,fun w hw y hy => ?_,fun w hw k y hk hy => ?_,fun w w0 w1 hw => ?_,fun l1 w l2 hl => ?_,fun w hw => D.rch w ((iff w).1 hw)⟩
 ·show (z :: s ++ (d.out ++ [x])).Nodup
  rw [← List.append_assoc,ys];refine ⟨hnd.2,by simp,fun a ha b hb => ?_⟩;rw [yc.1 hb];rintro rfl;exact hnd.1 ha
 ·have:=D.bk
  rw [hs] at this;exact this.2
 ·rw [iff]
  rcases yf.1 hw with hw | hw
  ·exact D.cl w hw y hy
  ·rw [yc.1 hw] at hy
   exact hall y hy
 ·rw [iff]
  have hne : w ≠ x:=fun h => hxs (h ▸ hw);have hw' : w ∈ d.stk:=by rw [hs]; exact yb _ hw
  have rw':=D.rng w (.inl hw');have hk' : k < (d.next.set x.toNat m).getD w.toNat 0:=hk;rw [getD_set_ne _ _ (by omega)] at hk';exact D.nx w hw' k y hk' hy
 ·have hw' : ¬ (w ∈ d.stk ∨ w ∈ d.out):=fun h => hw ((iff w).2 h)
  have hne : w ≠ x:=fun h => hw' (.inl (by rw [h,hs]; exact ya))
  show (d.next.set x.toNat m).getD w.toNat 0 = 0
  rw [getD_set_ne _ _ (by omega)];exact D.fr w w0 w1 hw'
 ·have hl : d.out ++ [x] = l1 ++ w :: l2:=hl
  have hbk:=D.bk;rw [hs] at hbk;rcases yo l2 with h2 | ⟨l2',q,h2⟩
  ·subst h2
   have:=yg hl rfl;injection this with this;subst this;exact ⟨z,hbk.1,.inr ya⟩
  ·subst h2
   have h3 : d.out ++ [x] = (l1 ++ w :: l2') ++ [q]:=(by rw [hl]; simp);have e1:=yp h3 rfl;have e2:=yg h3 rfl;injection e2 with e2;subst e2;obtain ⟨p,h5,h6⟩:=D.par l1 w l2' e1;refine ⟨p,h5,?_⟩;rw [hs] at h6;rcases h6 with h6 | h6
   ·exact .inl (by simp [h6])
   ·rcases yd.1 h6 with rfl | h6
    ·exact .inl (by simp)
    ·exact .inr h6
structure Left (succ : List (List Int)) (root : Int) (o : List Int) : Prop where
 nd : o.Nodup
 last : ∃ l,o = l ++ [root]
 rng : ∀ x ∈ o,0 ≤ x ∧ x < (succ.length : Int)
 cl : ∀ x ∈ o,∀ y,Eg succ x y → y ∈ o
 par : ∀ l1 x l2,o = l1 ++ x :: l2 → x ≠ root → ∃ p,Eg succ p x ∧ p ∈ l2
 rch : ∀ x ∈ o,∃ l,Way (Eg succ) root x l
omit hn in
theorem zCg {d : DF} (D : DS succ root d) {x : Int} (hs : d.stk = [x]) (h : zd9 succ d x = none) : Left succ root (d.out ++ [x]):=by
 have hall:=zt3 hr D hs h;have hbk:=D.bk;rw [hs] at hbk;have hxr : x = root:=hbk
 have iff : ∀ w,(w ∈ d.out ++ [x]) ↔ (w ∈ d.stk ∨ w ∈ d.out):=fun w => by
  rw [hs,yf];exact or_comm
 have hnd:=D.nd;rw [hs,List.singleton_append,yq] at hnd;refine ⟨?_,⟨d.out,by rw [hxr]⟩,fun w hw => D.rng w ((iff w).1 hw),fun w hw y hy => ?_,fun l1 w l2 hl hw => ?_,fun w hw => D.rch w ((iff w).1 hw)⟩
 ·rw [ys]
  refine ⟨hnd.2,by simp,fun a ha b hb => ?_⟩;rw [yc.1 hb];rintro rfl;exact hnd.1 ha
 ·rw [iff]
  rcases yf.1 hw with hw | hw
  ·exact D.cl w hw y hy
  ·rw [yc.1 hw] at hy
   exact hall y hy
 ·rcases yo l2 with h2 | ⟨l2',q,h2⟩
  ·subst h2
   have:=yg hl rfl;injection this with this;exact absurd (this.symm.trans hxr) hw
  ·subst h2
   have h3 : d.out ++ [x] = (l1 ++ w :: l2') ++ [q]:=(by rw [hl]; simp);have e1:=yp h3 rfl;have e2:=yg h3 rfl;injection e2 with e2;subst e2;obtain ⟨p,h5,h6⟩:=D.par l1 w l2' e1;refine ⟨p,h5,?_⟩;rw [hs] at h6;rcases h6 with h6 | h6
   ·simp [h6]
   ·rw [yc.1 h6]; simp
theorem zzV : ∀ (k : Nat) (d : DF),DS succ root d → 2 * (64 - (d.stk.length + d.out.length)) + d.stk.length < k → ∃ o,dfs succ k d = some o ∧ Left succ root o:=by
 intro k
 induction k with
 | zero => intro d _ h; omega
 | succ k ih =>
   intro d D hk;rw [dfs]
   cases hs : d.stk with
   | nil =>
     have:=D.bk;rw [hs] at this;exact this.elim
   | cons x s =>
     simp only
     have hle : d.stk.length + d.out.length ≤ 64:=by
      have:=zf0 D.nd fun x e => D.rng x (yf.1 e);rw [ym] at this;omega
     cases c : zd9 succ d x with
     | some yj =>
       obtain ⟨y,j⟩:=yj;simp only;obtain ⟨b,f,h2,h3⟩:=zAG hn hr D hs c
       have a : (y :: x :: s).length + d.out.length ≤ 64:=by
        have:=zf0 b.nd fun x e => b.rng x (yf.1 e);rw [ym] at this;exact Nat.le_trans this hn
       rw [hs] at hk;simp only [yl] at hk a;exact ih _ b (by simp only [yl]; omega)
     | none =>
       simp only
       cases s with
       | nil => exact ⟨_,rfl,zCg hr D hs c⟩
       | cons z s =>
         have b:=zB8 hr D hs c (zvp succ x);rw [hs] at hk hle;simp only [yl] at hk hle;exact ih _ b (by simp only [ym,yl,List.length_nil]; omega)
theorem zwS (d : 0 ≤ root ∧ root < (succ.length : Int)) : ∃ o,dfs succ 200 (zqn root) = some o ∧ Left succ root o:=by
 refine zzV hn hr 200 _ ⟨by simp [zqn,znU],rfl,fun x a => ?_,fun x f e => ?_,by simp [zqn],rfl,by simp [zqn],fun x a j y b => ?_,fun x _ _ _ => ?_,fun l1 x l2 hl => ?_,fun x a => ?_⟩ (by simp [zqn])
 ·simp only [zqn,yc,yn,or_false] at a
  rw [a]; exact d
 ·simp only [zqn,yc,yn,or_false]
  by_cases c : x = root
  ·subst c
   rw [zaN _ _ (by simp [znU]; omega)];simp
  ·rw [getD_set_ne _ _ (by omega)]
   simp only [c,iff_false];unfold znU;rw [ye,yh];split <;> simp
 ·exfalso
  have : zlI.getD x.toNat 0 = 0:=by unfold zlI; rw [ye,yh]; split <;> rfl
  have b : j < zlI.getD x.toNat 0:=b;omega
 ·show zlI.getD x.toNat 0 = 0
  unfold zlI;rw [ye,yh];split <;> rfl
 ·have hl : ([] : List Int) = l1 ++ x :: l2:=hl
  simp at hl
 ·simp only [zqn,yc,yn,or_false] at a
  rw [a];exact ⟨_,.root⟩
end
end AC

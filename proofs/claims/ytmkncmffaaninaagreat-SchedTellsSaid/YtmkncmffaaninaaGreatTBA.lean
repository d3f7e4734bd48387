/- A part of the proof of SchedTells. Conditions: none. -/
import Derived.Test.YtmkncmffaaninaaGreatTAZ
import Derived.Test.YtmkncmffaaninaaGreatTAX
set_option linter.all false
open List renaming mem_cons_self → ya,mem_cons_of_mem → yb,getD_eq_getElem?_getD → yc,mem_singleton → yd,mem_cons → ye,getElem?_eq_getElem → yf,mem_append → yg,getElem?_replicate → yh,append_inj_right' → yi,getElem?_eq_some_iff → yk,length_cons → yl,mem_reverse → ym,nodup_cons → yn,mem_iff_getElem? → yo,mem_of_getElem? → yp,length_append → yq,getElem?_cons_zero → yr,replicate → ys,not_mem_nil → yt,eq_nil_or_concat → yu,append_inj_left' → yv,length_reverse → yx,pairwise_cons → yy,getElem?_drop → yz,map_cons → yB,sum_cons → yC,nodup_append → yD,cons_append → yF
open Nat renaming le_refl → yw,add_zero → yE,le_trans → yG
open Int renaming toNat_natCast → yA
namespace AC
open Dm
theorem zxg {t : List Int} {x y : Int} (b : Int) (a : 0 ≤ x ∧ x < t.length) (d : 0 ≤ y) : tr (t.set x.toNat b) y = if y = x then b else tr t y:=by
 unfold tr
 by_cases c : y = x
 ·subst c
  rw [if_pos rfl,zbw _ _ (by omega)]
 ·rw [if_neg c,getD_set_ne _ _ (by omega)]
def tf (t : List Int) (x : Int) : Int:=if 0 ≤ x then tr t x else -2
theorem zvB {t : List Int} {x : Int} (h : 0 ≤ x) : tf t x = tr t x:=by unfold tf; rw [if_pos h]
theorem zwR {n : Nat} {a : Int} (h : 0 ≤ a ∧ a < (n : Int)) : inR n a = true:=by simp [inR,h.1,h.2]
section
variable {E : Int → Int → Prop} {root : Int} {O : Int → Prop} {pos : Int → Nat} {n : Nat} {at' : List Int}
variable (H : Ord E root O pos) (hO : ∀ a,O a → 0 ≤ a ∧ a < (n : Int)) (hal : at'.length = n) (hat : ∀ a,O a → tr at' a = (pos a : Int))
section
variable {t : List Int} (htl : t.length = n) (I : Inv E root O pos (tf t))
include H hO hal hat htl I
theorem zsv {b : Int} (m : tf t b ≠ -2) : ∀ (r : Nat) (a : Int),tf t a ≠ -2 → pos a < r → ∃ c,zqN t at' r a b = some c ∧ tf t c ≠ -2 ∧ pos c ≤ pos b ∧ pos c ≤ pos a ∧ (pos b < pos a → pos c < pos a) ∧ (∀ y,(Anc root (tf t) y a ∧ Anc root (tf t) y b) ↔ (Anc root (tf t) y c ∧ Anc root (tf t) y b)):=by
 intro r
 induction r with
 | zero => intro a _ h; omega
 | succ r ih =>
   intro a f x;have j:=zkc H I f;have i:=zkc H I m;have l:=hO a j;have rb:=hO b i
   have e : (inR t.length a && (inR at'.length a && inR at'.length b)) = true:=by
    rw [htl,hal,zwR l,zwR rb];rfl
   rw [zqN,if_pos e,hat a j,hat b i]
   by_cases c : pos b < pos a
   ·rw [if_pos (by omega)]
    have n : a ≠ root:=by
     rintro rfl;have:=H.low b i;omega
    obtain ⟨p1,p2⟩:=I.par a n f;have ea:=zvB (t:=t) l.1;rw [ea] at p1 p2;obtain ⟨s,o,q,p,w,v,u⟩:=ih (tr t a) p1 (by omega);refine ⟨s,o,q,p,by omega,fun _ => by omega,fun y => ?_⟩;rw [← u y];constructor
    ·rintro ⟨k,d⟩
     refine ⟨?_,d⟩
     have g : y ≠ a:=by
      rintro rfl;have:=zu3 H I d m;omega
     have:=(zo0 k g).2
     rwa [ea] at this
    ·rintro ⟨k,d⟩
     exact ⟨.step n (by rwa [ea]),d⟩
   ·rw [if_neg (by omega)]
    exact ⟨a,rfl,f,by omega,yw _,fun h => absurd h c,fun _ => Iff.rfl⟩
theorem zA4 {K : Nat} (l : ∀ a,O a → pos a < K) : ∀ (r : Nat) (a b : Int),tf t a ≠ -2 → tf t b ≠ -2 → pos a + pos b < r → ∃ c,zvf t at' K r a b = some c ∧ tf t c ≠ -2 ∧ ∀ y,Anc root (tf t) y c ↔ Anc root (tf t) y a ∧ Anc root (tf t) y b:=by
 intro r
 induction r with
 | zero => intro a b _ _ h; omega
 | succ r ih =>
   intro a b e g G;rw [zvf]
   by_cases c : a = b
   ·subst c
    rw [if_pos rfl];exact ⟨a,rfl,e,fun y => ⟨fun h => ⟨h,h⟩,fun h => h.1⟩⟩
   ·rw [if_neg c]
    have D : pos a ≠ pos b:=fun h => c (H.inj a b (zkc H I e) (zkc H I g) h);obtain ⟨z,o,m,B,E,C,n⟩:=zsv H hO hal hat htl I g K a e (l a (zkc H I e));obtain ⟨q,s,p,A,J,L,k⟩:=zsv H hO hal hat htl I m K b g (l b (zkc H I g));rw [o];simp only [s];obtain ⟨x,w,u,v⟩:=ih z q m p (by omega);refine ⟨x,w,u,fun y => ?_⟩;rw [v y];constructor
    ·rintro ⟨d,i⟩
     have f:=(k y).2 ⟨i,d⟩;have j:=(n y).2 ⟨d,f.1⟩;exact j
    ·rintro ⟨d,i⟩
     have f:=(n y).1 ⟨d,i⟩;have j:=(k y).1 ⟨i,f.1⟩;exact ⟨f.1,j.1⟩
theorem zns {K : Nat} (u : ∀ a,O a → 2 * pos a < K) : ∀ (o : List Int) (b : Int),(∀ p ∈ o,0 ≤ p ∧ p < (n : Int)) → (b = -2 ∨ tf t b ≠ -2) → ∃ c,znm t at' K o b = some c ∧ ((c = -2 ∧ b = -2 ∧ ∀ p ∈ o,tf t p = -2) ∨ (tf t c ≠ -2 ∧ ∀ y,Anc root (tf t) y c ↔ (∀ p ∈ o,tf t p ≠ -2 → Anc root (tf t) y p) ∧ (b ≠ -2 → Anc root (tf t) y b)))
 | [],b,_,s => by
   refine ⟨b,rfl,?_⟩;rcases s with rfl | s
   ·exact .inl ⟨rfl,rfl,by simp⟩
   ·exact .inr ⟨s,fun y => ⟨fun h => ⟨by simp,fun _ => h⟩,fun h => h.2 (I.nn _ (zkc H I s))⟩⟩
 | p :: o,b,hp,s => by
   have A:=hp p ya;have r:=fun q e => hp q (yb _ e);rw [znm,if_pos (by rw [htl]; exact zwR A)];have ep:=zvB (t:=t) A.1
   by_cases c : tr t p = -2
   ·rw [if_pos c]
    obtain ⟨z,w,x⟩:=zns u o b r s;refine ⟨z,w,?_⟩;rcases x with ⟨l,j,B⟩ | ⟨l,j⟩
    ·refine .inl ⟨l,j,fun q e => ?_⟩
     rcases ye.1 e with rfl | e
     ·rw [ep]; exact c
     ·exact B q e
    ·refine .inr ⟨l,fun y => ?_⟩
     rw [j y];constructor
     ·rintro ⟨f,k⟩
      refine ⟨fun q e g => ?_,k⟩;rcases ye.1 e with rfl | e
      ·rw [ep] at g; exact absurd c g
      ·exact f q e g
     ·rintro ⟨f,k⟩
      exact ⟨fun q e g => f q (yb _ e) g,k⟩
   ·rw [if_neg c]
    have i : tf t p ≠ -2:=by rw [ep]; exact c
    by_cases d : b = -2
    ·rw [if_pos d]
     obtain ⟨z,w,x⟩:=zns u o p r (.inr i);refine ⟨z,w,?_⟩;rcases x with ⟨l,j,B⟩ | ⟨l,j⟩
     ·have:=A.1
      omega
     ·refine .inr ⟨l,fun y => ?_⟩
      rw [j y];constructor
      ·rintro ⟨f,k⟩
       refine ⟨fun q e g => ?_,fun h => absurd d h⟩;rcases ye.1 e with rfl | e
       ·exact k (by have:=A.1; omega)
       ·exact f q e g
      ·rintro ⟨f,k⟩
       exact ⟨fun q e g => f q (yb _ e) g,fun _ => f p ya i⟩
    ·rw [if_neg d]
     have v : tf t b ≠ -2:=s.resolve_left d;obtain ⟨m,m1,m2,D⟩:=zA4 H hO hal hat htl I (K:=K) (fun a E => by have:=u a E; omega) K b p v i (by have:=u b (zkc H I v); have:=u p (zkc H I i); omega);rw [m1];obtain ⟨z,w,x⟩:=zns u o m r (.inr m2);refine ⟨z,w,?_⟩;rcases x with ⟨l,j,B⟩ | ⟨l,j⟩
     ·rw [j] at m2
      exact absurd rfl (I.nn _ (zkc H I m2))
     ·refine .inr ⟨l,fun y => ?_⟩
      rw [j y];constructor
      ·rintro ⟨f,k⟩
       have C:=(D y).1 (k (I.nn _ (zkc H I m2)));refine ⟨fun q e g => ?_,fun _ => C.1⟩;rcases ye.1 e with rfl | e
       ·exact C.2
       ·exact f q e g
      ·rintro ⟨f,k⟩
       exact ⟨fun q e g => f q (yb _ e) g,fun _ => (D y).2 ⟨k d,f p ya i⟩⟩
end
variable {pred : List (List Int)} (hpr : ∀ x,O x → ∀ p,p ∈ pred.getD x.toNat [] ↔ E p x) (hpn : ∀ x,O x → ∀ p ∈ pred.getD x.toNat [],0 ≤ p ∧ p < (n : Int))
section
variable {t : List Int} (htl : t.length = n) (I : Inv E root O pos (tf t))
include H hO hal hat hpr hpn htl I
theorem zut {K : Nat} (B : ∀ a,O a → 2 * pos a < K) : ∀ (l : List Int),(∀ x ∈ l,O x ∧ x ≠ root) → l.Pairwise (fun a b => pos a < pos b) → (∀ y,O y → y ≠ root → y ∉ l → (∀ x ∈ l,pos y < pos x) → St E root (tf t) y) → (∀ y,O y → y ≠ root → y ∉ l → (∀ x ∈ l,pos y < pos x) ∨ False) →
  (ztL pred t at' K l = some none ∧ ∀ x ∈ l,St E root (tf t) x) ∨ (∃ x b,ztL pred t at' K l = some (some (x,b)) ∧ x ∈ l ∧ Upd E root O pos (tf t) (tf (t.set x.toNat b)) x b)
 | [],_,_,_,_ => .inl ⟨rfl,by simp⟩
 | x :: l,hl,hs,hst,hall => by
   obtain ⟨m,o⟩:=hl x ya;have rx:=hO x m;have k:=yy.1 hs
   have early : ∀ y,O y → y ≠ root → pos y < pos x → St E root (tf t) y:=fun y f i q => by
    have g : y ∉ x :: l:=by
     intro h;rcases ye.1 h with rfl | h
     ·omega
     ·have:=k.1 y h; omega
    exact hst y f i g ((hall y f i g).resolve_right id)
   obtain ⟨c,f,i⟩:=zns H hO hal hat htl I B (pred.getD x.toNat []) (-2) (hpn x m) (.inl rfl);rcases i with ⟨r,A,D⟩ | ⟨r,A⟩
   ·obtain ⟨p,N,J,M⟩:=H.par x m o
    have:=D p ((hpr x m p).2 J);exact absurd this (ztF H I early N M)
   ·have n : ∀ y,Anc root (tf t) y c ↔ Com E root (tf t) x y:=fun y => by
     rw [A y];constructor
     ·rintro ⟨w,_⟩ p e u
      exact w p ((hpr x m p).2 e) u
     ·intro w
      exact ⟨fun p u g => w p ((hpr x m p).1 u) g,fun h => absurd rfl h⟩
    have ex:=zvB (t:=t) rx.1;rw [ztL,if_pos (by rw [htl]; exact zwR rx),f];simp only
    by_cases d : tr t x = c
    ·rw [if_pos d]
     have C : St E root (tf t) x:=by
      refine ⟨?_,fun y => ?_⟩
      ·rw [ex,d]
       exact I.nn _ (zkc H I r)
      ·rw [ex,d]
       exact n y
     have:=zut B l (fun y j => hl y (yb _ j)) k.2 (fun y f i q P => ?_) (fun y f i q => ?_)
     ·rcases this with ⟨s,v⟩ | ⟨y,b,s,v,L⟩
      ·refine .inl ⟨s,fun y j => ?_⟩
       rcases ye.1 j with rfl | j
       ·exact C
       ·exact v y j
      ·exact .inr ⟨y,b,s,yb _ v,L⟩
     ·by_cases e : y = x
      ·rw [e]; exact C
      ·have g : y ∉ x :: l:=fun h => (ye.1 h).elim e q
       exact hst y f i g ((hall y f i g).resolve_right id)
     ·by_cases e : y = x
      ·rw [e]; exact .inl k.1
      ·have g : y ∉ x :: l:=fun h => (ye.1 h).elim e q
       exact .inl fun z G => ((hall y f i g).resolve_right id) z (yb _ G)
    ·rw [if_neg d]
     refine .inr ⟨x,c,rfl,ya,?_,fun y j => ?_,m,o,early,r,n,?_⟩
     ·rw [zvB rx.1,zxg c (by rw [htl]; exact rx) rx.1,if_pos rfl]
     ·unfold tf
      by_cases e : 0 ≤ y
      ·rw [if_pos e,if_pos e,zxg c (by rw [htl]; exact rx) e,if_neg j]
      ·rw [if_neg e,if_neg e]
     ·rw [ex]
      exact fun h => d h.symm
end
def wgt (pos : Int → Nat) (M : Nat) (t : List Int) (x : Int) : Nat:=if tf t x = -2 then M else pos (tf t x)
theorem zGD {l : List Int} {f g : Int → Nat} (h : ∀ x ∈ l,g x ≤ f x) {z : Int} (c : z ∈ l) (j : g z < f z) : (l.map g).sum < (l.map f).sum:=by
 induction l with
 | nil => cases c
 | cons a l ih =>
   have le : ∀ l : List Int,(∀ x ∈ l,g x ≤ f x) → (l.map g).sum ≤ (l.map f).sum:=by
    intro l
    induction l with
    | nil => intro _; exact yw _
    | cons b l ih =>
      intro h;have i:=h b ya;have k:=ih fun x d => h x (yb _ d);simp only [yB,yC];omega
   simp only [yB,yC];have i:=h a ya;have e:=fun x d => h x (yb a d);rcases ye.1 c with rfl | c
   ·have:=le l e
    omega
   ·have:=ih e c
    omega
include H hO hal hat hpr hpn in
theorem zDF {K M : Nat} (m : ∀ a,O a → 2 * pos a < K) (l : ∀ a,O a → pos a < M) (tail : List Int) (k : ∀ x ∈ tail,O x ∧ x ≠ root) (p : tail.Pairwise (fun a b => pos a < pos b)) (e : ∀ y,O y → y ≠ root → y ∈ tail) :
  ∀ (r : Nat) (t : List Int),t.length = n → Inv E root O pos (tf t) → (tail.map (wgt pos M t)).sum < r → ∃ t',zh4 pred at' K tail r t = some t' ∧ t'.length = n ∧ Inv E root O pos (tf t') ∧ ∀ x,O x → x ≠ root → St E root (tf t') x:=by
 intro r
 induction r with
 | zero => intro t _ _ h; omega
 | succ r ih =>
   intro t htl I s;rw [zh4];rcases zut H hO hal hat hpr hpn htl I m tail k p (fun y f g i => absurd (e y f g) i) (fun y f g i => absurd (e y f g) i) with ⟨f,g⟩ | ⟨x,b,f,g,U⟩
   ·rw [f]
    exact ⟨t,rfl,htl,I,fun x i o => g x (e x i o)⟩
   ·rw [f]
    refine ih _ (by simp [htl]) (zE3 H I U) ?_
    have key : (tail.map (wgt pos M (t.set x.toNat b))).sum < (tail.map (wgt pos M t)).sum:=by
     obtain ⟨m1,m2,q⟩:=zFO H I U;have j:=l b (zkc H I U.hm);refine zGD (fun y _ => ?_) g ?_
     ·by_cases c : y = x
      ·subst c
       unfold wgt;rw [U.at',if_neg m2];split
       ·omega
       ·rename_i d
        exact Nat.le_of_lt (zB8 H I U d)
      ·unfold wgt
       rw [U.ne y c];exact yw _
     ·unfold wgt
      rw [U.at',if_neg m2];split
      ·exact j
      ·rename_i d
       exact zB8 H I U d
    omega
end
def Eg (succ : List (List Int)) (p x : Int) : Prop:=0 ≤ p ∧ p < (succ.length : Int) ∧ x ∈ succ.getD p.toNat []
section
variable (succ : List (List Int)) (root : Int)
def zHy : List Int → Prop
 | [] => False
 | [x] => x = root
 | x :: y :: s => Eg succ y x ∧ zHy (y :: s)
structure DS (d : DF) : Prop where
 sl : d.seen.length = 64
 nl : d.next.length = 64
 rng : ∀ x,x ∈ d.stk ∨ x ∈ d.out → 0 ≤ x ∧ x < (succ.length : Int)
 mem : ∀ x,0 ≤ x → x < (succ.length : Int) → (d.seen.getD x.toNat false = true ↔ x ∈ d.stk ∨ x ∈ d.out)
 nd : (d.stk ++ d.out).Nodup
 bk : zHy succ root d.stk
 cl : ∀ x ∈ d.out,∀ y,Eg succ x y → y ∈ d.stk ∨ y ∈ d.out
 nx : ∀ x ∈ d.stk,∀ j y,j < d.next.getD x.toNat 0 → (succ.getD x.toNat [])[j]? = some y → y ∈ d.stk ∨ y ∈ d.out
 fr : ∀ x,0 ≤ x → x < (succ.length : Int) → ¬ (x ∈ d.stk ∨ x ∈ d.out) → d.next.getD x.toNat 0 = 0
 par : ∀ l1 x l2,d.out = l1 ++ x :: l2 → ∃ p,Eg succ p x ∧ (p ∈ l2 ∨ p ∈ d.stk)
 rch : ∀ x,x ∈ d.stk ∨ x ∈ d.out → ∃ l,Way (Eg succ) root x l
end
theorem zuU {seen : List Bool} : ∀ {l : List Int} {k : Nat} {y : Int} {j : Nat},scan seen l k = some (y,j) → ∃ i,j = k + i + 1 ∧ l[i]? = some y ∧ seen.getD y.toNat false = false ∧ ∀ i' z,i' < i → l[i']? = some z → seen.getD z.toNat false = true
 | [],_,_,_,h => by simp [scan] at h
 | z :: r,k,y,j,h => by
   simp only [scan] at h;split at h
   ·rename_i c
    obtain ⟨i,d,h2,h3,a⟩:=zuU h;refine ⟨i + 1,by omega,by simpa using h2,h3,fun i' w b hw => ?_⟩
    cases i' with
    | zero => simp at hw; rw [← hw]; exact c
    | succ i' => exact a i' w (by omega) (by simpa using hw)
   ·rename_i c
    simp only [Option.some.injEq,Prod.mk.injEq] at h;obtain ⟨rfl,rfl⟩:=h;exact ⟨0,by omega,rfl,by simpa using c,fun i' w b => by omega⟩
theorem ztV {seen : List Bool} : ∀ {l : List Int} {k : Nat},scan seen l k = none → ∀ z ∈ l,seen.getD z.toNat false = true
 | [],_,_ => by simp
 | z :: r,k,h => by
   simp only [scan] at h;split at h
   ·rename_i c
    intro w hw;rcases ye.1 hw with rfl | hw
    ·exact c
    ·exact ztV h w hw
   ·cases h
theorem ziV {l : List Int} {n : Nat} (hd : l.Nodup) (h : ∀ x ∈ l,0 ≤ x ∧ x < (n : Int)) : l.length ≤ n:=by
 have:=hd.length_le_of_subset (l₂:=(List.range n).map fun i : Nat => (i : Int)) (fun x a => by
  obtain ⟨b,h2⟩:=h x a
  exact List.mem_map.2 ⟨x.toNat,List.mem_range.2 (by omega),by omega⟩)
 simpa using this
section
variable {succ : List (List Int)} {root : Int} (hn : succ.length ≤ 64) (hr : ∀ l ∈ succ,∀ y ∈ l,0 ≤ y ∧ y < (succ.length : Int))
include hr in
theorem zxr {x y : Int} (h : Eg succ x y) : 0 ≤ y ∧ y < (succ.length : Int):=by
 obtain ⟨b,h2,h3⟩:=h;have a : x.toNat < succ.length:=by omega
 rw [yc,yf a] at h3;exact hr _ (List.getElem_mem a) y h3
include hn hr
theorem zFQ {d : DF} (D : DS succ root d) {x : Int} {s : List Int} (hs : d.stk = x :: s) {y : Int} {j : Nat} (h : zg0 succ d x = some (y,j)) :
  DS succ root ⟨d.seen.set y.toNat true,d.next.set x.toNat j,d.out,y :: x :: s⟩ ∧ ¬ (y ∈ d.stk ∨ y ∈ d.out) ∧ 0 ≤ y ∧ y < (succ.length : Int):=by
 obtain ⟨i,rfl,h2,h3,t⟩:=zuU h;have rx:=D.rng x (.inl (by rw [hs]; exact ya));have f : (succ.getD x.toNat [])[d.next.getD x.toNat 0 + i]? = some y:=by simpa using h2
 have e : Eg succ x y:=⟨rx.1,rx.2,yp f⟩;have ry:=zxr hr e
 have b : ¬ (y ∈ d.stk ∨ y ∈ d.out):=fun hm => by
  have:=(D.mem y ry.1 ry.2).2 hm;rw [h3] at this;cases this
 have r : x ≠ y:=fun h => b (.inl (by rw [hs,← h]; exact ya));have o:=D.sl;have n:=D.nl
 have up : ∀ z,(z ∈ d.stk ∨ z ∈ d.out) → (z ∈ y :: x :: s ∨ z ∈ d.out):=fun z a => by
  rw [hs] at a;rcases a with a | a
  ·exact .inl (yb _ a)
  ·exact .inr a
 have dn : ∀ z,(z ∈ y :: x :: s ∨ z ∈ d.out) → z = y ∨ (z ∈ d.stk ∨ z ∈ d.out):=fun z a => by
  rw [hs];rcases a with a | a
  ·rcases ye.1 a with a | a
   ·exact .inl a
   ·exact .inr (.inl a)
  ·exact .inr (.inr a)
 refine ⟨⟨by simp [o],by simp [n],fun z a => ?_,fun z z0 m => ?_,?_,?_,fun z a w hw => up w (D.cl z a w hw),fun z a k w hk hw => ?_,fun z z0 m a => ?_,fun l1 z l2 hl => ?_,fun z a => ?_⟩,b,ry⟩
 ·rcases dn z a with rfl | a
  ·exact ry
  ·exact D.rng z a
 ·by_cases c : z = y
  ·subst c
   rw [zbw _ _ (by omega)];simp
  ·rw [getD_set_ne _ _ (by omega),D.mem z z0 m]
   exact ⟨up z,fun h => (dn z h).resolve_left c⟩
 ·show (y :: x :: s ++ d.out).Nodup
  have:=D.nd;rw [hs] at this;rw [yF,yn];refine ⟨fun hm => b ?_,this⟩;rw [hs];exact yg.1 hm
 ·show zHy succ root (y :: x :: s)
  have:=D.bk;rw [hs] at this;exact ⟨e,this⟩
 ·by_cases c : z = x
  ·subst c
   rw [zbw _ _ (by omega)] at hk
   by_cases c1 : k < d.next.getD z.toNat 0
   ·exact up w (D.nx z (by rw [hs]; exact ya) k w c1 hw)
   ·by_cases c2 : k = d.next.getD z.toNat 0 + i
    ·rw [c2,f] at hw
     injection hw with hw;exact .inl (by rw [← hw]; exact ya)
    ·have hd : ((succ.getD z.toNat []).drop (d.next.getD z.toNat 0))[k - d.next.getD z.toNat 0]? = some w:=by
      rw [yz]
      rwa [show d.next.getD z.toNat 0 + (k - d.next.getD z.toNat 0) = k by omega]
     have h5:=t _ w (by omega) hd;have rw':=zxr hr (⟨rx.1,rx.2,yp hw⟩ : Eg succ z w);exact up w ((D.mem w rw'.1 rw'.2).1 h5)
  ·rcases ye.1 a with rfl | a
   ·have c0 : z.toNat ≠ x.toNat:=by omega
    rw [getD_set_ne _ _ (fun h => c0 h.symm),D.fr z ry.1 ry.2 b] at hk;omega
   ·have g : z ∈ d.stk:=by rw [hs]; exact a
    have v:=D.rng z (.inl g);rw [getD_set_ne _ _ (by omega)] at hk;exact up w (D.nx z g k w hk hw)
 ·have q : ¬ (z ∈ d.stk ∨ z ∈ d.out):=fun h => a (up z h)
  have u : z ≠ x:=fun h => q (.inl (by rw [hs,h]; exact ya))
  show (d.next.set x.toNat _).getD z.toNat 0 = 0
  rw [getD_set_ne _ _ (by omega)];exact D.fr z z0 m q
 ·obtain ⟨p,h5,h6⟩:=D.par l1 z l2 hl
  refine ⟨p,h5,h6.imp id fun h => ?_⟩;rw [hs] at h;exact yb _ h
 ·rcases dn z a with rfl | a
  ·obtain ⟨l,w⟩:=D.rch x (.inl (by rw [hs]; exact ya))
   exact ⟨_,.step w e⟩
  ·exact D.rch z a
omit hn in
theorem zwH {d : DF} (D : DS succ root d) {x : Int} {s : List Int} (hs : d.stk = x :: s) (h : zg0 succ d x = none) : ∀ y,Eg succ x y → y ∈ d.stk ∨ y ∈ d.out:=by
 intro y e;obtain ⟨k,hk⟩:=yo.1 e.2.2
 by_cases c : k < d.next.getD x.toNat 0
 ·exact D.nx x (by rw [hs]; exact ya) k y c hk
 ·have ry:=zxr hr e
  refine (D.mem y ry.1 ry.2).1 (ztV h y (yp (i:=k - d.next.getD x.toNat 0) ?_));rw [yz]
  rwa [show d.next.getD x.toNat 0 + (k - d.next.getD x.toNat 0) = k by omega]
omit hn in
theorem zGq {d : DF} (D : DS succ root d) {x z : Int} {s : List Int} (hs : d.stk = x :: z :: s) (h : zg0 succ d x = none) (m : Nat) :
  DS succ root ⟨d.seen,d.next.set x.toNat m,d.out ++ [x],z :: s⟩:=by
 have hall:=zwH hr D hs h;have rx:=D.rng x (.inl (by rw [hs]; exact ya))
 have iff : ∀ w,(w ∈ z :: s ∨ w ∈ d.out ++ [x]) ↔ (w ∈ d.stk ∨ w ∈ d.out):=fun w => by
  rw [hs,yg,yd,ye (a:=w) (b:=x)];constructor
  ·rintro (h | h | h)
   ·exact .inl (.inr h)
   ·exact .inr h
   ·exact .inl (.inl h)
  ·rintro ((h | h) | h)
   ·exact .inr (.inr h)
   ·exact .inl h
   ·exact .inr (.inl h)
 have hnd:=D.nd;rw [hs,yF,yn] at hnd;have hxs : x ∉ z :: s:=fun hm => hnd.1 (List.mem_append_left _ hm);have hxo : x ∉ d.out:=fun hm => hnd.1 (List.mem_append_right _ hm);refine ⟨D.sl,by simp [D.nl],fun w hw => D.rng w ((iff w).1 hw),fun w w0 w1 => (D.mem w w0 w1).trans (iff w).symm,?_,?_,fun w hw y hy => ?_,fun w hw k y hk hy => ?_,fun w w0 w1 hw => ?_,fun l1 w l2 hl => ?_,fun w hw => D.rch w ((iff w).1 hw)⟩
 ·show (z :: s ++ (d.out ++ [x])).Nodup
  rw [← List.append_assoc,yD];refine ⟨hnd.2,by simp,fun a ha b hb => ?_⟩;rw [yd.1 hb];rintro rfl;exact hnd.1 ha
 ·have:=D.bk
  rw [hs] at this;exact this.2
 ·rw [iff]
  rcases yg.1 hw with hw | hw
  ·exact D.cl w hw y hy
  ·rw [yd.1 hw] at hy
   exact hall y hy
 ·rw [iff]
  have hne : w ≠ x:=fun h => hxs (h ▸ hw);have hw' : w ∈ d.stk:=by rw [hs]; exact yb _ hw
  have rw':=D.rng w (.inl hw');have hk' : k < (d.next.set x.toNat m).getD w.toNat 0:=hk;rw [getD_set_ne _ _ (by omega)] at hk';exact D.nx w hw' k y hk' hy
 ·have hw' : ¬ (w ∈ d.stk ∨ w ∈ d.out):=fun h => hw ((iff w).2 h)
  have hne : w ≠ x:=fun h => hw' (.inl (by rw [h,hs]; exact ya))
  show (d.next.set x.toNat m).getD w.toNat 0 = 0
  rw [getD_set_ne _ _ (by omega)];exact D.fr w w0 w1 hw'
 ·have hl : d.out ++ [x] = l1 ++ w :: l2:=hl
  have hbk:=D.bk;rw [hs] at hbk;rcases yu l2 with h2 | ⟨l2',q,h2⟩
  ·subst h2
   have:=yi hl rfl;injection this with this;subst this;exact ⟨z,hbk.1,.inr ya⟩
  ·subst h2
   have h3 : d.out ++ [x] = (l1 ++ w :: l2') ++ [q]:=(by rw [hl]; simp);have e1:=yv h3 rfl;have e2:=yi h3 rfl;injection e2 with e2;subst e2;obtain ⟨p,h5,h6⟩:=D.par l1 w l2' e1;refine ⟨p,h5,?_⟩;rw [hs] at h6;rcases h6 with h6 | h6
   ·exact .inl (by simp [h6])
   ·rcases ye.1 h6 with rfl | h6
    ·exact .inl (by simp)
    ·exact .inr h6
structure Left (succ : List (List Int)) (root : Int) (o : List Int) : Prop where
 nd : o.Nodup
 last : ∃ l,o = l ++ [root]
 rng : ∀ x ∈ o,0 ≤ x ∧ x < (succ.length : Int)
 cl : ∀ x ∈ o,∀ y,Eg succ x y → y ∈ o
 par : ∀ l1 x l2,o = l1 ++ x :: l2 → x ≠ root → ∃ p,Eg succ p x ∧ p ∈ l2
 rch : ∀ x ∈ o,∃ l,Way (Eg succ) root x l
omit hn in
theorem zG3 {d : DF} (D : DS succ root d) {x : Int} (hs : d.stk = [x]) (h : zg0 succ d x = none) : Left succ root (d.out ++ [x]):=by
 have hall:=zwH hr D hs h;have hbk:=D.bk;rw [hs] at hbk;have hxr : x = root:=hbk
 have iff : ∀ w,(w ∈ d.out ++ [x]) ↔ (w ∈ d.stk ∨ w ∈ d.out):=fun w => by
  rw [hs,yg];exact or_comm
 have hnd:=D.nd;rw [hs,List.singleton_append,yn] at hnd;refine ⟨?_,⟨d.out,by rw [hxr]⟩,fun w hw => D.rng w ((iff w).1 hw),fun w hw y hy => ?_,fun l1 w l2 hl hw => ?_,fun w hw => D.rch w ((iff w).1 hw)⟩
 ·rw [yD]
  refine ⟨hnd.2,by simp,fun a ha b hb => ?_⟩;rw [yd.1 hb];rintro rfl;exact hnd.1 ha
 ·rw [iff]
  rcases yg.1 hw with hw | hw
  ·exact D.cl w hw y hy
  ·rw [yd.1 hw] at hy
   exact hall y hy
 ·rcases yu l2 with h2 | ⟨l2',q,h2⟩
  ·subst h2
   have:=yi hl rfl;injection this with this;exact absurd (this.symm.trans hxr) hw
  ·subst h2
   have h3 : d.out ++ [x] = (l1 ++ w :: l2') ++ [q]:=(by rw [hl]; simp);have e1:=yv h3 rfl;have e2:=yi h3 rfl;injection e2 with e2;subst e2;obtain ⟨p,h5,h6⟩:=D.par l1 w l2' e1;refine ⟨p,h5,?_⟩;rw [hs] at h6;rcases h6 with h6 | h6
   ·simp [h6]
   ·rw [yd.1 h6]; simp
theorem zDX : ∀ (k : Nat) (d : DF),DS succ root d → 2 * (64 - (d.stk.length + d.out.length)) + d.stk.length < k → ∃ o,dfs succ k d = some o ∧ Left succ root o:=by
 intro k
 induction k with
 | zero => intro d _ h; omega
 | succ k ih =>
   intro d D hk;rw [dfs]
   cases hs : d.stk with
   | nil =>
     have:=D.bk;rw [hs] at this;exact this.elim
   | cons x s =>
     simp only
     have hle : d.stk.length + d.out.length ≤ 64:=by
      have:=ziV D.nd fun x c => D.rng x (yg.1 c);rw [yq] at this;omega
     cases e : zg0 succ d x with
     | some yj =>
       obtain ⟨y,j⟩:=yj;simp only;obtain ⟨a,f,h2,h3⟩:=zFQ hn hr D hs e
       have b : (y :: x :: s).length + d.out.length ≤ 64:=by
        have:=ziV a.nd fun x c => a.rng x (yg.1 c);rw [yq] at this;exact yG this hn
       rw [hs] at hk;simp only [yl] at hk b;exact ih _ a (by simp only [yl]; omega)
     | none =>
       simp only
       cases s with
       | nil => exact ⟨_,rfl,zG3 hr D hs e⟩
       | cons z s =>
         have a:=zGq hr D hs e (zxT succ x);rw [hs] at hk hle;simp only [yl] at hk hle;exact ih _ a (by simp only [yq,yl,List.length_nil]; omega)
theorem zAC (d : 0 ≤ root ∧ root < (succ.length : Int)) : ∃ o,dfs succ 200 (ztS root) = some o ∧ Left succ root o:=by
 refine zDX hn hr 200 _ ⟨by simp [ztS,zrn],rfl,fun x a => ?_,fun x f e => ?_,by simp [ztS],rfl,by simp [ztS],fun x a j y b => ?_,fun x _ _ _ => ?_,fun l1 x l2 hl => ?_,fun x a => ?_⟩ (by simp [ztS])
 ·simp only [ztS,yd,yt,or_false] at a
  rw [a]; exact d
 ·simp only [ztS,yd,yt,or_false]
  by_cases c : x = root
  ·subst c
   rw [zbw _ _ (by simp [zrn]; omega)];simp
  ·rw [getD_set_ne _ _ (by omega)]
   simp only [c,iff_false];unfold zrn;rw [yc,yh];split <;> simp
 ·exfalso
  have : zpn.getD x.toNat 0 = 0:=by unfold zpn; rw [yc,yh]; split <;> rfl
  have b : j < zpn.getD x.toNat 0:=b;omega
 ·show zpn.getD x.toNat 0 = 0
  unfold zpn;rw [yc,yh];split <;> rfl
 ·have hl : ([] : List Int) = l1 ++ x :: l2:=hl
  simp at hl
 ·simp only [ztS,yd,yt,or_false] at a
  rw [a];exact ⟨_,.root⟩
end
theorem zAO {x : Int} (b : 0 ≤ x) : ∀ (l : List Int) (i : Nat) (a : List Int),(∀ y ∈ l,0 ≤ y) → x ∉ l → tr (zkP i l a) x = tr a x
 | [],_,_,_,_ => rfl
 | y :: l,i,a,hl,hn => by
   rw [zkP,zAO b l _ _ (fun z c => hl z (yb _ c)) (fun h => hn (yb _ h))];unfold tr;have:=hl y ya;rw [getD_set_ne _ _ (fun h => hn (by rw [show x = y by omega]; exact ya))]
theorem zBP : ∀ (l : List Int) (i : Nat) (a : List Int),(∀ y ∈ l,0 ≤ y ∧ y < (a.length : Int)) → l.Nodup → ∀ (j : Nat) (x : Int),l[j]? = some x → tr (zkP i l a) x = ((i + j : Nat) : Int)
 | [],_,_,_,_,j,x,h => by simp at h
 | y :: l,i,a,hl,hd,j,x,h => by
   have e:=hl y ya;have c:=yn.1 hd;have b : ∀ z ∈ l,0 ≤ z ∧ z < ((a.set y.toNat (i : Int)).length : Int):=fun z d => by rw [List.length_set]; exact hl z (yb _ d)
   rw [zkP]
   cases j with
   | zero =>
     simp only [yr,Option.some.injEq] at h;subst h;rw [zAO e.1 l _ _ (fun z d => (b z d).1) c.1];unfold tr;rw [zbw _ _ (by omega),yE]
   | succ j =>
     rw [zBP l (i + 1) _ b c.2 j x (by simpa using h)]
     congr 1
     omega
theorem ztm (i : Int) (out : List (List Int)) (x : Int) (X : Nat) (b : 0 ≤ x) (a : X < out.length) : (zt8 i out x).getD X [] = if x = X then out.getD X [] ++ [i] else out.getD X []:=by
 unfold zt8
 by_cases c : x = (X : Int)
 ·subst c
  rw [if_pos rfl,yA,zbw _ _ a]
 ·rw [if_neg c,getD_set_ne _ _ (by omega)]
theorem zpX (i : Int) (X : Nat) (y : Int) : ∀ (l : List Int) (out : List (List Int)),(∀ x ∈ l,0 ≤ x) → X < out.length → (y ∈ (l.foldl (zt8 i) out).getD X [] ↔ y ∈ out.getD X [] ∨ (y = i ∧ (X : Int) ∈ l))
 | [],out,_,_ => by simp
 | x :: l,out,hl,hX => by
   rw [List.foldl_cons,zpX i X y l _ (fun z b => hl z (yb _ b)) (by rw [zgu]; exact hX),ztm i out x X (hl x ya) hX]
   by_cases c : x = (X : Int)
   ·rw [if_pos c,yg,yd,ye]
    constructor
    ·rintro ((h | h) | h)
     ·exact .inl h
     ·exact .inr ⟨h,.inl c.symm⟩
     ·exact .inr ⟨h.1,.inr h.2⟩
    ·rintro (h | h)
     ·exact .inl (.inl h)
     ·exact .inl (.inr h.1)
   ·rw [if_neg c,ye]
    constructor
    ·rintro (h | h)
     ·exact .inl h
     ·exact .inr ⟨h.1,.inr h.2⟩
    ·rintro (h | ⟨d,a | a⟩)
     ·exact .inl h
     ·exact absurd a.symm c
     ·exact .inr ⟨d,a⟩
theorem znv (X : Nat) (y : Int) : ∀ (l : List (List Int)) (i : Nat) (out : List (List Int)),(∀ r ∈ l,∀ x ∈ r,0 ≤ x) → X < out.length → (y ∈ (zbj i l out).getD X [] ↔ y ∈ out.getD X [] ∨ ∃ j r,l[j]? = some r ∧ y = ((i + j : Nat) : Int) ∧ (X : Int) ∈ r)
 | [],i,out,_,_ => by simp [zbj]
 | r :: l,i,out,hl,hX => by
   rw [zbj,znv X y l (i + 1) _ (fun z d => hl z (yb _ d)) (by rw [zgV]; exact hX),zpX (i : Int) X y r out (hl r ya) hX];constructor
   ·rintro ((h | h) | ⟨j,q,a,b,c⟩)
    ·exact .inl h
    ·exact .inr ⟨0,r,rfl,by rw [h.1,yE],h.2⟩
    ·exact .inr ⟨j + 1,q,by simpa using a,by rw [b]; congr 1; omega,c⟩
   ·rintro (h | ⟨j,q,a,b,c⟩)
    ·exact .inl (.inl h)
    ·cases j with
     | zero =>
       simp only [yr,Option.some.injEq] at a;subst a;exact .inl (.inr ⟨by rw [b,yE],c⟩)
     | succ j => exact .inr ⟨j,q,by simpa using a,by rw [b]; congr 1; omega,c⟩
theorem zqx {n : Int} : ∀ {l : List Int} {last : Int},zV n last l = true → ∀ x ∈ l,last < x ∧ x < n
 | [],_,_ => by simp
 | y :: r,last,h => by
   simp only [zV] at h;split at h
   ·cases h
   ·rename_i c
    intro x a;rcases ye.1 a with rfl | a
    ·omega
    ·have:=zqx h x a
     omega
theorem zfa {succ : List (List Int)} (h : zbA succ = true) : 1 ≤ succ.length ∧ succ.length ≤ 64 ∧ ∀ l ∈ succ,∀ y ∈ l,0 ≤ y ∧ y < (succ.length : Int):=by
 unfold zbA at h;simp only [Bool.not_eq_true',Bool.or_eq_false_iff,decide_eq_false_iff_not,List.any_eq_false] at h;refine ⟨by omega,by omega,fun l b y c => ?_⟩;have a : rising l succ.length = true:=by simpa using h.2.2 l b
 have:=zqx a y c;omega
theorem znK {succ : List (List Int)} (g : ∀ l ∈ succ,∀ y ∈ l,0 ≤ y ∧ y < (succ.length : Int)) {x : Int} (k : 0 ≤ x ∧ x < (succ.length : Int)) (p : Int) : p ∈ (zR succ).getD x.toNat [] ↔ Eg succ p x:=by
 unfold zR;rw [znv x.toNat p succ 0 _ (fun l d y e => (g l d y e).1) (by simp; omega)]
 have e0 : (ys succ.length ([] : List Int)).getD x.toNat [] = []:=by
  rw [yc,yh];split <;> rfl
 rw [e0];have ex : ((x.toNat : Nat) : Int) = x:=by omega
 rw [ex];constructor
 ·rintro (h | ⟨j,r,c,f,b⟩)
  ·simp at h
  ·have i:=(yk.1 c).1
   refine ⟨by omega,by omega,?_⟩;rw [show p.toNat = j by omega,yc,c];exact b
 ·rintro ⟨c,f,b⟩
  have a : p.toNat < succ.length:=by omega
  rw [yc,yf a] at b;exact .inr ⟨p.toNat,succ[p.toNat],yf a,by omega,b⟩
structure TreeOf (succ : List (List Int)) (root : Int) (O : Int → Prop) (pos : Int → Nat) (t : List Int) : Prop where
 len : t.length = succ.length
 ord : Ord (Eg succ) root O pos
 rng : ∀ a,O a → 0 ≤ a ∧ a < (succ.length : Int)
 inv : Inv (Eg succ) root O pos (tf t)
 st : ∀ x,O x → x ≠ root → St (Eg succ) root (tf t) x
 low : ∀ a,O a → pos a < succ.length
 rch : ∀ a,O a ↔ ∃ l,Way (Eg succ) root a l
theorem zDm {n root : Nat} (h : root < n) (x : Int) : tf (zlK n root) x = if x = root then (root : Int) else -2:=by
 unfold tf zlK
 by_cases c : 0 ≤ x
 ·rw [if_pos c]
  have e : tr ((ys n (-2 : Int)).set ((root : Nat) : Int).toNat root) x = if x = root then (root : Int) else tr (ys n (-2 : Int)) x:=zxg _ ⟨by omega,by simp; omega⟩ c
  rw [yA] at e;rw [e];split
  ·rfl
  ·unfold tr
   rw [yc,yh];split <;> rfl
 ·rw [if_neg c,if_neg (by omega)]
theorem zFN {succ : List (List Int)} (hm : zbA succ = true) {root : Nat} (h0 : root < succ.length) :
  ∃ o o0 tail t O pos,dfs succ 200 (ztS root) = some o ∧ o.reverse = o0 :: tail ∧ (∀ x ∈ o,0 ≤ x ∧ x < (succ.length : Int)) ∧ o.length ≤ 64 ∧
    zh4 (zR succ) (at0 succ.length o.reverse) 200 tail 5000 (zlK succ.length root) = some t ∧ TreeOf succ root O pos t ∧ (∀ x,O x ↔ x ∈ o):=by
 obtain ⟨n1,n64,hr⟩:=zfa hm;obtain ⟨o,ho,L⟩:=zAC (root:=(root : Int)) n64 hr (by omega);obtain ⟨C,s⟩:=L.last;have m : o.reverse = (root : Int) :: C.reverse:=by rw [s]; simp
 have Y : o.reverse.Nodup:=List.pairwise_reverse.2 (L.nd.imp fun h => h.symm);have hlen : o.length ≤ 64:=yG (ziV L.nd L.rng) n64;have aG : o.reverse.length ≤ succ.length:=by rw [yx]; exact ziV L.nd L.rng
 obtain ⟨at',v⟩ : ∃ a,a = at0 succ.length o.reverse:=⟨_,rfl⟩;have aD : at'.length = succ.length:=by rw [v,at0,zjv]; simp
 have B : ∀ (j : Nat) (x : Int),o.reverse[j]? = some x → tr at' x = (j : Int):=fun j x h => by
  have:=zBP o.reverse 0 (ys succ.length 0) (fun y V => by rw [List.length_replicate]; exact L.rng y (ym.1 V)) Y j x h;rw [v,at0,this,Nat.zero_add]
 obtain ⟨pos,W⟩ : ∃ p : Int → Nat,p = fun a => (tr at' a).toNat:=⟨_,rfl⟩;have A : ∀ (j : Nat) (x : Int),o.reverse[j]? = some x → pos x = j:=fun j x h => by rw [W]; simp only; rw [B j x h]; omega
 have hex : ∀ x,x ∈ o → ∃ j : Nat,o.reverse[j]? = some x ∧ j < o.reverse.length:=fun x g => by
  obtain ⟨j,D⟩:=yo.1 (ym.2 g);exact ⟨j,D,(yk.1 D).1⟩
 have N : o.reverse[0]? = some (root : Int):=by rw [m]; rfl
 have J : (root : Int) ∈ o:=by rw [s]; simp
 have aC : ∀ a,a ∈ o → tr at' a = (pos a : Int):=fun a u => by
  obtain ⟨j,f,_⟩:=hex a u;rw [B j a f,A j a f]
 have H : Ord (Eg succ) (root : Int) (· ∈ o) pos:=by
  refine ⟨J,fun a b u hb h => ?_,fun a _ => ?_,fun x g aE => ?_,fun p x r e => L.cl p r x e⟩
  ·obtain ⟨i,f,_⟩:=hex a u
   obtain ⟨j,k,_⟩:=hex b hb;rw [A i a f,A j b k] at h;subst h;rw [f] at k;injection k
  ·rw [A 0 _ N]; omega
  ·obtain ⟨l1,l2,hl⟩:=List.append_of_mem g
   obtain ⟨p,e,S⟩:=L.par l1 x l2 hl aE;have Q : o.reverse = l2.reverse ++ (x :: l1.reverse):=by rw [hl]; simp
   have aF : o.reverse[l2.length]? = some x:=by
    rw [Q,List.getElem?_append_right (by simp)];simp
   obtain ⟨j,D⟩:=yo.1 (ym.2 S);have G:=(yk.1 D).1;rw [yx] at G;have r : o.reverse[j]? = some p:=(by rw [Q,List.getElem?_append_left (by simpa using G)]; exact D);exact ⟨p,by rw [hl]; simp [S],e,by rw [A _ _ aF,A _ _ r]; exact G⟩
 have P : ∀ a,a ∈ o → 0 ≤ a ∧ a < (succ.length : Int):=L.rng
 have q : ∀ a,a ∈ o → pos a < succ.length:=fun a u => by
  obtain ⟨j,f,k⟩:=hex a u;rw [A j a f];omega
 have z:=zDm (n:=succ.length) h0
 have I : Inv (Eg succ) (root : Int) (· ∈ o) pos (tf (zlK succ.length root)):=by
  have Z : ∀ x : Int,x ≠ (root : Int) → ¬ tf (zlK succ.length root) x ≠ -2:=fun x g h => h (by rw [z,if_neg g]);refine ⟨fun x g => ?_,by rw [z,if_pos rfl],fun x g h => ?_,fun x f k => absurd k (Z x f),fun x d f k => absurd k (Z x f),fun x f k => absurd k (Z x f),fun x f k => absurd k (Z x f)⟩
  ·rw [z,if_neg]
   rintro rfl;exact g J
  ·have:=(P x g).1
   omega
 have R : o.reverse.Pairwise (fun a b => pos a < pos b):=by
  rw [List.pairwise_iff_getElem];intro i j hi D aB;rw [A i _ (yf hi),A j _ (yf D)];exact aB
 rw [m] at R
 have E : ∀ x ∈ C.reverse,x ∈ o ∧ x ≠ (root : Int):=fun x g => by
  have aA : x ∈ o:=by rw [s]; simp [ym.1 g]
  refine ⟨aA,?_⟩;rintro rfl;have:=Y;rw [m,yn] at this;exact this.1 g
 have X : ∀ y,y ∈ o → y ≠ (root : Int) → y ∈ C.reverse:=fun y V hn => by
  rw [s] at V;simp only [yg,yd] at V;exact ym.2 (V.resolve_right hn)
 have U : (C.reverse.map (wgt pos 64 (zlK succ.length root))).sum < 5000:=by
  have hle : ∀ l : List Int,(l.map (wgt pos 64 (zlK succ.length root))).sum ≤ 64 * l.length:=by
   intro l
   induction l with
   | nil => simp
   | cons x l ih =>
     simp only [yB,yC,yl]
     have : wgt pos 64 (zlK succ.length root) x ≤ 64:=by
      unfold wgt;rw [z]
      by_cases c : x = (root : Int)
      ·rw [if_pos c,if_neg (by omega)]
       have:=q _ J;omega
      ·rw [if_neg c,if_pos rfl]
       exact yw _
     omega
  have f:=hle C.reverse
  have k : C.reverse.length ≤ 64:=by
   rw [s] at hlen;simp at hlen ⊢;omega
  omega
 obtain ⟨t,f,k,h3,h4⟩:=zDF H P aD aC (fun x g p => znK hr (P x g) p) (fun x g p r => by
  have:=(znK hr (P x g) p).1 r
  exact ⟨this.1,this.2.1⟩) (K:=200) (M:=64) (fun a u => by have:=q a u; omega) (fun a u => by have:=q a u; omega) C.reverse E (yy.1 R).2 X 5000 (zlK succ.length root) (by simp [zlK]) I U
 refine ⟨o,root,C.reverse,t,(· ∈ o),pos,ho,m,P,hlen,by rw [← v]; exact f,⟨k,H,P,h3,h4,q,fun a => ⟨fun u => L.rch a u,fun ⟨l,w⟩ => (zxi H w).1⟩⟩,fun _ => Iff.rfl⟩
end AC

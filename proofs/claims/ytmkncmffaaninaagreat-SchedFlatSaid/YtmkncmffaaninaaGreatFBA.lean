/- A part of the proof of SchedFlat. Conditions: none. -/
import Derived.Test.YtmkncmffaaninaaGreatFAZ
import Derived.Test.YtmkncmffaaninaaGreatFAX
set_option linter.all false
open List renaming mem_cons_self → ya,mem_cons_of_mem → yb,getD_eq_getElem?_getD → yc,mem_singleton → yd,mem_cons → ye,getElem?_eq_getElem → yf,mem_append → yg,getElem?_replicate → yh,append_inj_right' → yi,getElem?_eq_some_iff → yk,length_cons → yl,mem_reverse → ym,nodup_cons → yn,mem_iff_getElem? → yo,mem_of_getElem? → yp,length_append → yq,getElem?_cons_zero → yr,replicate → ys,not_mem_nil → yt,eq_nil_or_concat → yu,append_inj_left' → yv,length_reverse → yx,pairwise_cons → yy,getElem?_drop → yz,map_cons → yB,sum_cons → yC,nodup_append → yD,cons_append → yF
open Nat renaming le_refl → yw,add_zero → yE,le_trans → yG
open Int renaming toNat_natCast → yA
namespace AC
open Dm
theorem zwe {t : List Int} {x y : Int} (b : Int) (a : 0 ≤ x ∧ x < t.length) (d : 0 ≤ y) : tr (t.set x.toNat b) y = if y = x then b else tr t y:=by
 unfold tr
 by_cases c : y = x
 ·subst c
  rw [if_pos rfl,zbe _ _ (by omega)]
 ·rw [if_neg c,getD_set_ne _ _ (by omega)]
def tf (t : List Int) (x : Int) : Int:=if 0 ≤ x then tr t x else -2
theorem zuw {t : List Int} {x : Int} (h : 0 ≤ x) : tf t x = tr t x:=by unfold tf; rw [if_pos h]
theorem zv9 {n : Nat} {a : Int} (h : 0 ≤ a ∧ a < (n : Int)) : inR n a = true:=by simp [inR,h.1,h.2]
section
variable {E : Int → Int → Prop} {root : Int} {O : Int → Prop} {pos : Int → Nat} {n : Nat} {at' : List Int}
variable (H : Ord E root O pos) (hO : ∀ a,O a → 0 ≤ a ∧ a < (n : Int)) (hal : at'.length = n) (hat : ∀ a,O a → tr at' a = (pos a : Int))
section
variable {t : List Int} (htl : t.length = n) (I : Inv E root O pos (tf t))
include H hO hal hat htl I
theorem zqF {b : Int} (j : tf t b ≠ -2) : ∀ (r : Nat) (a : Int),tf t a ≠ -2 → pos a < r → ∃ c,zpO t at' r a b = some c ∧ tf t c ≠ -2 ∧ pos c ≤ pos b ∧ pos c ≤ pos a ∧ (pos b < pos a → pos c < pos a) ∧ (∀ y,(Anc root (tf t) y a ∧ Anc root (tf t) y b) ↔ (Anc root (tf t) y c ∧ Anc root (tf t) y b)):=by
 intro r
 induction r with
 | zero => intro a _ h; omega
 | succ r ih =>
   intro a f v;have m:=zjn H I f;have g:=zjn H I j;have k:=hO a m;have rb:=hO b g
   have e : (inR t.length a && (inR at'.length a && inR at'.length b)) = true:=by
    rw [htl,hal,zv9 k,zv9 rb];rfl
   rw [zpO,if_pos e,hat a m,hat b g]
   by_cases c : pos b < pos a
   ·rw [if_pos (by omega)]
    have n : a ≠ root:=by
     rintro rfl;have:=H.low b g;omega
    obtain ⟨p1,p2⟩:=I.par a n f;have ea:=zuw (t:=t) k.1;rw [ea] at p1 p2;obtain ⟨p,q,o,s,x,w,u⟩:=ih (tr t a) p1 (by omega);refine ⟨p,q,o,s,by omega,fun _ => by omega,fun y => ?_⟩;rw [← u y];constructor
    ·rintro ⟨l,d⟩
     refine ⟨?_,d⟩
     have i : y ≠ a:=by
      rintro rfl;have:=ztN H I d j;omega
     have:=(znH l i).2
     rwa [ea] at this
    ·rintro ⟨l,d⟩
     exact ⟨.step n (by rwa [ea]),d⟩
   ·rw [if_neg (by omega)]
    exact ⟨a,rfl,f,by omega,yw _,fun h => absurd h c,fun _ => Iff.rfl⟩
theorem zzt {K : Nat} (n : ∀ a,O a → pos a < K) : ∀ (r : Nat) (a b : Int),tf t a ≠ -2 → tf t b ≠ -2 → pos a + pos b < r → ∃ c,ztd t at' K r a b = some c ∧ tf t c ≠ -2 ∧ ∀ y,Anc root (tf t) y c ↔ Anc root (tf t) y a ∧ Anc root (tf t) y b:=by
 intro r
 induction r with
 | zero => intro a b _ _ h; omega
 | succ r ih =>
   intro a b e d A;rw [ztd]
   by_cases c : a = b
   ·subst c
    rw [if_pos rfl];exact ⟨a,rfl,e,fun y => ⟨fun h => ⟨h,h⟩,fun h => h.1⟩⟩
   ·rw [if_neg c]
    have L : pos a ≠ pos b:=fun h => c (H.inj a b (zjn H I e) (zjn H I d) h);obtain ⟨x,u,k,D,G,C,m⟩:=zqF H hO hal hat htl I d K a e (n a (zjn H I e));obtain ⟨o,s,v,J,B,E,l⟩:=zqF H hO hal hat htl I k K b d (n b (zjn H I d));rw [u];simp only [s];obtain ⟨p,w,q,z⟩:=ih x o k v (by omega);refine ⟨p,w,q,fun y => ?_⟩;rw [z y];constructor
    ·rintro ⟨i,g⟩
     have f:=(l y).2 ⟨g,i⟩;have j:=(m y).2 ⟨i,f.1⟩;exact j
    ·rintro ⟨i,g⟩
     have f:=(m y).1 ⟨i,g⟩;have j:=(l y).1 ⟨g,f.1⟩;exact ⟨f.1,j.1⟩
theorem zmd {K : Nat} (u : ∀ a,O a → 2 * pos a < K) : ∀ (o : List Int) (b : Int),(∀ p ∈ o,0 ≤ p ∧ p < (n : Int)) → (b = -2 ∨ tf t b ≠ -2) → ∃ c,zmb t at' K o b = some c ∧ ((c = -2 ∧ b = -2 ∧ ∀ p ∈ o,tf t p = -2) ∨ (tf t c ≠ -2 ∧ ∀ y,Anc root (tf t) y c ↔ (∀ p ∈ o,tf t p ≠ -2 → Anc root (tf t) y p) ∧ (b ≠ -2 → Anc root (tf t) y b)))
 | [],b,_,s => by
   refine ⟨b,rfl,?_⟩;rcases s with rfl | s
   ·exact .inl ⟨rfl,rfl,by simp⟩
   ·exact .inr ⟨s,fun y => ⟨fun h => ⟨by simp,fun _ => h⟩,fun h => h.2 (I.nn _ (zjn H I s))⟩⟩
 | p :: o,b,hp,s => by
   have A:=hp p ya;have r:=fun q e => hp q (yb _ e);rw [zmb,if_pos (by rw [htl]; exact zv9 A)];have ep:=zuw (t:=t) A.1
   by_cases c : tr t p = -2
   ·rw [if_pos c]
    obtain ⟨w,x,v⟩:=zmd u o b r s;refine ⟨w,x,?_⟩;rcases v with ⟨l,j,B⟩ | ⟨l,j⟩
    ·refine .inl ⟨l,j,fun q e => ?_⟩
     rcases ye.1 e with rfl | e
     ·rw [ep]; exact c
     ·exact B q e
    ·refine .inr ⟨l,fun y => ?_⟩
     rw [j y];constructor
     ·rintro ⟨g,k⟩
      refine ⟨fun q e f => ?_,k⟩;rcases ye.1 e with rfl | e
      ·rw [ep] at f; exact absurd c f
      ·exact g q e f
     ·rintro ⟨g,k⟩
      exact ⟨fun q e f => g q (yb _ e) f,k⟩
   ·rw [if_neg c]
    have i : tf t p ≠ -2:=by rw [ep]; exact c
    by_cases d : b = -2
    ·rw [if_pos d]
     obtain ⟨w,x,v⟩:=zmd u o p r (.inr i);refine ⟨w,x,?_⟩;rcases v with ⟨l,j,B⟩ | ⟨l,j⟩
     ·have:=A.1
      omega
     ·refine .inr ⟨l,fun y => ?_⟩
      rw [j y];constructor
      ·rintro ⟨g,k⟩
       refine ⟨fun q e f => ?_,fun h => absurd d h⟩;rcases ye.1 e with rfl | e
       ·exact k (by have:=A.1; omega)
       ·exact g q e f
      ·rintro ⟨g,k⟩
       exact ⟨fun q e f => g q (yb _ e) f,fun _ => g p ya i⟩
    ·rw [if_neg d]
     have z : tf t b ≠ -2:=s.resolve_left d;obtain ⟨m,m1,m2,C⟩:=zzt H hO hal hat htl I (K:=K) (fun a E => by have:=u a E; omega) K b p z i (by have:=u b (zjn H I z); have:=u p (zjn H I i); omega);rw [m1];obtain ⟨w,x,v⟩:=zmd u o m r (.inr m2);refine ⟨w,x,?_⟩;rcases v with ⟨l,j,B⟩ | ⟨l,j⟩
     ·rw [j] at m2
      exact absurd rfl (I.nn _ (zjn H I m2))
     ·refine .inr ⟨l,fun y => ?_⟩
      rw [j y];constructor
      ·rintro ⟨g,k⟩
       have D:=(C y).1 (k (I.nn _ (zjn H I m2)));refine ⟨fun q e f => ?_,fun _ => D.1⟩;rcases ye.1 e with rfl | e
       ·exact D.2
       ·exact g q e f
      ·rintro ⟨g,k⟩
       exact ⟨fun q e f => g q (yb _ e) f,fun _ => (C y).2 ⟨k d,g p ya i⟩⟩
end
variable {pred : List (List Int)} (hpr : ∀ x,O x → ∀ p,p ∈ pred.getD x.toNat [] ↔ E p x) (hpn : ∀ x,O x → ∀ p ∈ pred.getD x.toNat [],0 ≤ p ∧ p < (n : Int))
section
variable {t : List Int} (htl : t.length = n) (I : Inv E root O pos (tf t))
include H hO hal hat hpr hpn htl I
theorem zsL {K : Nat} (B : ∀ a,O a → 2 * pos a < K) : ∀ (l : List Int),(∀ x ∈ l,O x ∧ x ≠ root) → l.Pairwise (fun a b => pos a < pos b) → (∀ y,O y → y ≠ root → y ∉ l → (∀ x ∈ l,pos y < pos x) → St E root (tf t) y) → (∀ y,O y → y ≠ root → y ∉ l → (∀ x ∈ l,pos y < pos x) ∨ False) →
  (zrI pred t at' K l = some none ∧ ∀ x ∈ l,St E root (tf t) x) ∨ (∃ x b,zrI pred t at' K l = some (some (x,b)) ∧ x ∈ l ∧ Upd E root O pos (tf t) (tf (t.set x.toNat b)) x b)
 | [],_,_,_,_ => .inl ⟨rfl,by simp⟩
 | x :: l,hl,hs,hst,hall => by
   obtain ⟨k,o⟩:=hl x ya;have rx:=hO x k;have j:=yy.1 hs
   have early : ∀ y,O y → y ≠ root → pos y < pos x → St E root (tf t) y:=fun y g f q => by
    have i : y ∉ x :: l:=by
     intro h;rcases ye.1 h with rfl | h
     ·omega
     ·have:=j.1 y h; omega
    exact hst y g f i ((hall y g f i).resolve_right id)
   obtain ⟨c,g,f⟩:=zmd H hO hal hat htl I B (pred.getD x.toNat []) (-2) (hpn x k) (.inl rfl);rcases f with ⟨r,C,M⟩ | ⟨r,C⟩
   ·obtain ⟨p,L,G,N⟩:=H.par x k o
    have:=M p ((hpr x k p).2 G);exact absurd this (zsJ H I early L N)
   ·have n : ∀ y,Anc root (tf t) y c ↔ Com E root (tf t) x y:=fun y => by
     rw [C y];constructor
     ·rintro ⟨w,_⟩ p e v
      exact w p ((hpr x k p).2 e) v
     ·intro w
      exact ⟨fun p v i => w p ((hpr x k p).1 v) i,fun h => absurd rfl h⟩
    have ex:=zuw (t:=t) rx.1;rw [zrI,if_pos (by rw [htl]; exact zv9 rx),g];simp only
    by_cases d : tr t x = c
    ·rw [if_pos d]
     have A : St E root (tf t) x:=by
      refine ⟨?_,fun y => ?_⟩
      ·rw [ex,d]
       exact I.nn _ (zjn H I r)
      ·rw [ex,d]
       exact n y
     have:=zsL B l (fun y m => hl y (yb _ m)) j.2 (fun y g f q P => ?_) (fun y g f q => ?_)
     ·rcases this with ⟨u,s⟩ | ⟨y,b,u,s,J⟩
      ·refine .inl ⟨u,fun y m => ?_⟩
       rcases ye.1 m with rfl | m
       ·exact A
       ·exact s y m
      ·exact .inr ⟨y,b,u,yb _ s,J⟩
     ·by_cases e : y = x
      ·rw [e]; exact A
      ·have i : y ∉ x :: l:=fun h => (ye.1 h).elim e q
       exact hst y g f i ((hall y g f i).resolve_right id)
     ·by_cases e : y = x
      ·rw [e]; exact .inl j.1
      ·have i : y ∉ x :: l:=fun h => (ye.1 h).elim e q
       exact .inl fun z D => ((hall y g f i).resolve_right id) z (yb _ D)
    ·rw [if_neg d]
     refine .inr ⟨x,c,rfl,ya,?_,fun y m => ?_,k,o,early,r,n,?_⟩
     ·rw [zuw rx.1,zwe c (by rw [htl]; exact rx) rx.1,if_pos rfl]
     ·unfold tf
      by_cases e : 0 ≤ y
      ·rw [if_pos e,if_pos e,zwe c (by rw [htl]; exact rx) e,if_neg m]
      ·rw [if_neg e,if_neg e]
     ·rw [ex]
      exact fun h => d h.symm
end
def wgt (pos : Int → Nat) (M : Nat) (t : List Int) (x : Int) : Nat:=if tf t x = -2 then M else pos (tf t x)
theorem zE9 {l : List Int} {f g : Int → Nat} (h : ∀ x ∈ l,g x ≤ f x) {z : Int} (c : z ∈ l) (j : g z < f z) : (l.map g).sum < (l.map f).sum:=by
 induction l with
 | nil => cases c
 | cons a l ih =>
   have le : ∀ l : List Int,(∀ x ∈ l,g x ≤ f x) → (l.map g).sum ≤ (l.map f).sum:=by
    intro l
    induction l with
    | nil => intro _; exact yw _
    | cons b l ih =>
      intro h;have i:=h b ya;have k:=ih fun x d => h x (yb _ d);simp only [yB,yC];omega
   simp only [yB,yC];have i:=h a ya;have e:=fun x d => h x (yb a d);rcases ye.1 c with rfl | c
   ·have:=le l e
    omega
   ·have:=ih e c
    omega
include H hO hal hat hpr hpn in
theorem zCa {K M : Nat} (p : ∀ a,O a → 2 * pos a < K) (l : ∀ a,O a → pos a < M) (tail : List Int) (m : ∀ x ∈ tail,O x ∧ x ≠ root) (k : tail.Pairwise (fun a b => pos a < pos b)) (e : ∀ y,O y → y ≠ root → y ∈ tail) :
  ∀ (r : Nat) (t : List Int),t.length = n → Inv E root O pos (tf t) → (tail.map (wgt pos M t)).sum < r → ∃ t',zhb pred at' K tail r t = some t' ∧ t'.length = n ∧ Inv E root O pos (tf t') ∧ ∀ x,O x → x ≠ root → St E root (tf t') x:=by
 intro r
 induction r with
 | zero => intro t _ _ h; omega
 | succ r ih =>
   intro t htl I q;rw [zhb];rcases zsL H hO hal hat hpr hpn htl I p tail m k (fun y g f i => absurd (e y g f) i) (fun y g f i => absurd (e y g f) i) with ⟨g,f⟩ | ⟨x,b,g,f,U⟩
   ·rw [g]
    exact ⟨t,rfl,htl,I,fun x i o => f x (e x i o)⟩
   ·rw [g]
    refine ih _ (by simp [htl]) (zD2 H I U) ?_
    have key : (tail.map (wgt pos M (t.set x.toNat b))).sum < (tail.map (wgt pos M t)).sum:=by
     obtain ⟨m1,m2,s⟩:=zDy H I U;have j:=l b (zjn H I U.hm);refine zE9 (fun y _ => ?_) f ?_
     ·by_cases c : y = x
      ·subst c
       unfold wgt;rw [U.at',if_neg m2];split
       ·omega
       ·rename_i d
        exact Nat.le_of_lt (zxZ H I U d)
      ·unfold wgt
       rw [U.ne y c];exact yw _
     ·unfold wgt
      rw [U.at',if_neg m2];split
      ·exact j
      ·rename_i d
       exact zxZ H I U d
    omega
end
def Eg (succ : List (List Int)) (p x : Int) : Prop:=0 ≤ p ∧ p < (succ.length : Int) ∧ x ∈ succ.getD p.toNat []
section
variable (succ : List (List Int)) (root : Int)
def zFx : List Int → Prop
 | [] => False
 | [x] => x = root
 | x :: y :: s => Eg succ y x ∧ zFx (y :: s)
structure DS (d : DF) : Prop where
 sl : d.seen.length = 64
 nl : d.next.length = 64
 rng : ∀ x,x ∈ d.stk ∨ x ∈ d.out → 0 ≤ x ∧ x < (succ.length : Int)
 mem : ∀ x,0 ≤ x → x < (succ.length : Int) → (d.seen.getD x.toNat false = true ↔ x ∈ d.stk ∨ x ∈ d.out)
 nd : (d.stk ++ d.out).Nodup
 bk : zFx succ root d.stk
 cl : ∀ x ∈ d.out,∀ y,Eg succ x y → y ∈ d.stk ∨ y ∈ d.out
 nx : ∀ x ∈ d.stk,∀ j y,j < d.next.getD x.toNat 0 → (succ.getD x.toNat [])[j]? = some y → y ∈ d.stk ∨ y ∈ d.out
 fr : ∀ x,0 ≤ x → x < (succ.length : Int) → ¬ (x ∈ d.stk ∨ x ∈ d.out) → d.next.getD x.toNat 0 = 0
 par : ∀ l1 x l2,d.out = l1 ++ x :: l2 → ∃ p,Eg succ p x ∧ (p ∈ l2 ∨ p ∈ d.stk)
 rch : ∀ x,x ∈ d.stk ∨ x ∈ d.out → ∃ l,Way (Eg succ) root x l
end
theorem zt1 {seen : List Bool} : ∀ {l : List Int} {k : Nat} {y : Int} {j : Nat},scan seen l k = some (y,j) → ∃ i,j = k + i + 1 ∧ l[i]? = some y ∧ seen.getD y.toNat false = false ∧ ∀ i' z,i' < i → l[i']? = some z → seen.getD z.toNat false = true
 | [],_,_,_,h => by simp [scan] at h
 | z :: r,k,y,j,h => by
   simp only [scan] at h;split at h
   ·rename_i c
    obtain ⟨i,d,h2,h3,a⟩:=zt1 h;refine ⟨i + 1,by omega,by simpa using h2,h3,fun i' w b hw => ?_⟩
    cases i' with
    | zero => simp at hw; rw [← hw]; exact c
    | succ i' => exact a i' w (by omega) (by simpa using hw)
   ·rename_i c
    simp only [Option.some.injEq,Prod.mk.injEq] at h;obtain ⟨rfl,rfl⟩:=h;exact ⟨0,by omega,rfl,by simpa using c,fun i' w b => by omega⟩
theorem ztJ {seen : List Bool} : ∀ {l : List Int} {k : Nat},scan seen l k = none → ∀ z ∈ l,seen.getD z.toNat false = true
 | [],_,_ => by simp
 | z :: r,k,h => by
   simp only [scan] at h;split at h
   ·rename_i c
    intro w hw;rcases ye.1 hw with rfl | hw
    ·exact c
    ·exact ztJ h w hw
   ·cases h
theorem zib {l : List Int} {n : Nat} (hd : l.Nodup) (h : ∀ x ∈ l,0 ≤ x ∧ x < (n : Int)) : l.length ≤ n:=by
 have:=hd.length_le_of_subset (l₂:=(List.range n).map fun i : Nat => (i : Int)) (fun x a => by
  obtain ⟨b,h2⟩:=h x a
  exact List.mem_map.2 ⟨x.toNat,List.mem_range.2 (by omega),by omega⟩)
 simpa using this
section
variable {succ : List (List Int)} {root : Int} (hn : succ.length ≤ 64) (hr : ∀ l ∈ succ,∀ y ∈ l,0 ≤ y ∧ y < (succ.length : Int))
include hr in
theorem zwn {x y : Int} (h : Eg succ x y) : 0 ≤ y ∧ y < (succ.length : Int):=by
 obtain ⟨b,h2,h3⟩:=h;have a : x.toNat < succ.length:=by omega
 rw [yc,yf a] at h3;exact hr _ (List.getElem_mem a) y h3
include hn hr
theorem zDh {d : DF} (D : DS succ root d) {x : Int} {s : List Int} (hs : d.stk = x :: s) {y : Int} {j : Nat} (h : zf9 succ d x = some (y,j)) :
  DS succ root ⟨d.seen.set y.toNat true,d.next.set x.toNat j,d.out,y :: x :: s⟩ ∧ ¬ (y ∈ d.stk ∨ y ∈ d.out) ∧ 0 ≤ y ∧ y < (succ.length : Int):=by
 obtain ⟨i,rfl,h2,h3,t⟩:=zt1 h;have rx:=D.rng x (.inl (by rw [hs]; exact ya));have g : (succ.getD x.toNat [])[d.next.getD x.toNat 0 + i]? = some y:=by simpa using h2
 have e : Eg succ x y:=⟨rx.1,rx.2,yp g⟩;have ry:=zwn hr e
 have b : ¬ (y ∈ d.stk ∨ y ∈ d.out):=fun hm => by
  have:=(D.mem y ry.1 ry.2).2 hm;rw [h3] at this;cases this
 have u : x ≠ y:=fun h => b (.inl (by rw [hs,← h]; exact ya));have o:=D.sl;have m:=D.nl
 have up : ∀ z,(z ∈ d.stk ∨ z ∈ d.out) → (z ∈ y :: x :: s ∨ z ∈ d.out):=fun z a => by
  rw [hs] at a;rcases a with a | a
  ·exact .inl (yb _ a)
  ·exact .inr a
 have dn : ∀ z,(z ∈ y :: x :: s ∨ z ∈ d.out) → z = y ∨ (z ∈ d.stk ∨ z ∈ d.out):=fun z a => by
  rw [hs];rcases a with a | a
  ·rcases ye.1 a with a | a
   ·exact .inl a
   ·exact .inr (.inl a)
  ·exact .inr (.inr a)
 refine ⟨⟨by simp [o],by simp [m],fun z a => ?_,fun z z0 n => ?_,?_,?_,fun z a w hw => up w (D.cl z a w hw),fun z a k w hk hw => ?_,fun z z0 n a => ?_,fun l1 z l2 hl => ?_,fun z a => ?_⟩,b,ry⟩
 ·rcases dn z a with rfl | a
  ·exact ry
  ·exact D.rng z a
 ·by_cases c : z = y
  ·subst c
   rw [zbe _ _ (by omega)];simp
  ·rw [getD_set_ne _ _ (by omega),D.mem z z0 n]
   exact ⟨up z,fun h => (dn z h).resolve_left c⟩
 ·show (y :: x :: s ++ d.out).Nodup
  have:=D.nd;rw [hs] at this;rw [yF,yn];refine ⟨fun hm => b ?_,this⟩;rw [hs];exact yg.1 hm
 ·show zFx succ root (y :: x :: s)
  have:=D.bk;rw [hs] at this;exact ⟨e,this⟩
 ·by_cases c : z = x
  ·subst c
   rw [zbe _ _ (by omega)] at hk
   by_cases c1 : k < d.next.getD z.toNat 0
   ·exact up w (D.nx z (by rw [hs]; exact ya) k w c1 hw)
   ·by_cases c2 : k = d.next.getD z.toNat 0 + i
    ·rw [c2,g] at hw
     injection hw with hw;exact .inl (by rw [← hw]; exact ya)
    ·have hd : ((succ.getD z.toNat []).drop (d.next.getD z.toNat 0))[k - d.next.getD z.toNat 0]? = some w:=by
      rw [yz]
      rwa [show d.next.getD z.toNat 0 + (k - d.next.getD z.toNat 0) = k by omega]
     have h5:=t _ w (by omega) hd;have rw':=zwn hr (⟨rx.1,rx.2,yp hw⟩ : Eg succ z w);exact up w ((D.mem w rw'.1 rw'.2).1 h5)
  ·rcases ye.1 a with rfl | a
   ·have c0 : z.toNat ≠ x.toNat:=by omega
    rw [getD_set_ne _ _ (fun h => c0 h.symm),D.fr z ry.1 ry.2 b] at hk;omega
   ·have f : z ∈ d.stk:=by rw [hs]; exact a
    have v:=D.rng z (.inl f);rw [getD_set_ne _ _ (by omega)] at hk;exact up w (D.nx z f k w hk hw)
 ·have q : ¬ (z ∈ d.stk ∨ z ∈ d.out):=fun h => a (up z h)
  have r : z ≠ x:=fun h => q (.inl (by rw [hs,h]; exact ya))
  show (d.next.set x.toNat _).getD z.toNat 0 = 0
  rw [getD_set_ne _ _ (by omega)];exact D.fr z z0 n q
 ·obtain ⟨p,h5,h6⟩:=D.par l1 z l2 hl
  refine ⟨p,h5,h6.imp id fun h => ?_⟩;rw [hs] at h;exact yb _ h
 ·rcases dn z a with rfl | a
  ·obtain ⟨l,w⟩:=D.rch x (.inl (by rw [hs]; exact ya))
   exact ⟨_,.step w e⟩
  ·exact D.rch z a
omit hn in
theorem zvA {d : DF} (D : DS succ root d) {x : Int} {s : List Int} (hs : d.stk = x :: s) (h : zf9 succ d x = none) : ∀ y,Eg succ x y → y ∈ d.stk ∨ y ∈ d.out:=by
 intro y e;obtain ⟨k,hk⟩:=yo.1 e.2.2
 by_cases c : k < d.next.getD x.toNat 0
 ·exact D.nx x (by rw [hs]; exact ya) k y c hk
 ·have ry:=zwn hr e
  refine (D.mem y ry.1 ry.2).1 (ztJ h y (yp (i:=k - d.next.getD x.toNat 0) ?_));rw [yz]
  rwa [show d.next.getD x.toNat 0 + (k - d.next.getD x.toNat 0) = k by omega]
omit hn in
theorem zEp {d : DF} (D : DS succ root d) {x z : Int} {s : List Int} (hs : d.stk = x :: z :: s) (h : zf9 succ d x = none) (m : Nat) :
  DS succ root ⟨d.seen,d.next.set x.toNat m,d.out ++ [x],z :: s⟩:=by
 have hall:=zvA hr D hs h;have rx:=D.rng x (.inl (by rw [hs]; exact ya))
 have iff : ∀ w,(w ∈ z :: s ∨ w ∈ d.out ++ [x]) ↔ (w ∈ d.stk ∨ w ∈ d.out):=fun w => by
  rw [hs,yg,yd,ye (a:=w) (b:=x)];constructor
  ·rintro (h | h | h)
   ·exact .inl (.inr h)
   ·exact .inr h
   ·exact .inl (.inl h)
  ·rintro ((h | h) | h)
   ·exact .inr (.inr h)
   ·exact .inl h
   ·exact .inr (.inl h)
 have hnd:=D.nd;rw [hs,yF,yn] at hnd;have hxs : x ∉ z :: s:=fun hm => hnd.1 (List.mem_append_left _ hm);have hxo : x ∉ d.out:=fun hm => hnd.1 (List.mem_append_right _ hm);refine ⟨D.sl,by simp [D.nl],fun w hw => D.rng w ((iff w).1 hw),fun w w0 w1 => (D.mem w w0 w1).trans (iff w).symm,?_,?_,fun w hw y hy => ?_,fun w hw k y hk hy => ?_,fun w w0 w1 hw => ?_,fun l1 w l2 hl => ?_,fun w hw => D.rch w ((iff w).1 hw)⟩
 ·show (z :: s ++ (d.out ++ [x])).Nodup
  rw [← List.append_assoc,yD];refine ⟨hnd.2,by simp,fun a ha b hb => ?_⟩;rw [yd.1 hb];rintro rfl;exact hnd.1 ha
 ·have:=D.bk
  rw [hs] at this;exact this.2
 ·rw [iff]
  rcases yg.1 hw with hw | hw
  ·exact D.cl w hw y hy
  ·rw [yd.1 hw] at hy
   exact hall y hy
 ·rw [iff]
  have hne : w ≠ x:=fun h => hxs (h ▸ hw);have hw' : w ∈ d.stk:=by rw [hs]; exact yb _ hw
  have rw':=D.rng w (.inl hw');have hk' : k < (d.next.set x.toNat m).getD w.toNat 0:=hk;rw [getD_set_ne _ _ (by omega)] at hk';exact D.nx w hw' k y hk' hy
 ·have hw' : ¬ (w ∈ d.stk ∨ w ∈ d.out):=fun h => hw ((iff w).2 h)
  have hne : w ≠ x:=fun h => hw' (.inl (by rw [h,hs]; exact ya))
  show (d.next.set x.toNat m).getD w.toNat 0 = 0
  rw [getD_set_ne _ _ (by omega)];exact D.fr w w0 w1 hw'
 ·have hl : d.out ++ [x] = l1 ++ w :: l2:=hl
  have hbk:=D.bk;rw [hs] at hbk;rcases yu l2 with h2 | ⟨l2',q,h2⟩
  ·subst h2
   have:=yi hl rfl;injection this with this;subst this;exact ⟨z,hbk.1,.inr ya⟩
  ·subst h2
   have h3 : d.out ++ [x] = (l1 ++ w :: l2') ++ [q]:=(by rw [hl]; simp);have e1:=yv h3 rfl;have e2:=yi h3 rfl;injection e2 with e2;subst e2;obtain ⟨p,h5,h6⟩:=D.par l1 w l2' e1;refine ⟨p,h5,?_⟩;rw [hs] at h6;rcases h6 with h6 | h6
   ·exact .inl (by simp [h6])
   ·rcases ye.1 h6 with rfl | h6
    ·exact .inl (by simp)
    ·exact .inr h6
structure Left (succ : List (List Int)) (root : Int) (o : List Int) : Prop where
 nd : o.Nodup
 last : ∃ l,o = l ++ [root]
 rng : ∀ x ∈ o,0 ≤ x ∧ x < (succ.length : Int)
 cl : ∀ x ∈ o,∀ y,Eg succ x y → y ∈ o
 par : ∀ l1 x l2,o = l1 ++ x :: l2 → x ≠ root → ∃ p,Eg succ p x ∧ p ∈ l2
 rch : ∀ x ∈ o,∃ l,Way (Eg succ) root x l
omit hn in
theorem zEQ {d : DF} (D : DS succ root d) {x : Int} (hs : d.stk = [x]) (h : zf9 succ d x = none) : Left succ root (d.out ++ [x]):=by
 have hall:=zvA hr D hs h;have hbk:=D.bk;rw [hs] at hbk;have hxr : x = root:=hbk
 have iff : ∀ w,(w ∈ d.out ++ [x]) ↔ (w ∈ d.stk ∨ w ∈ d.out):=fun w => by
  rw [hs,yg];exact or_comm
 have hnd:=D.nd;rw [hs,List.singleton_append,yn] at hnd;refine ⟨?_,⟨d.out,by rw [hxr]⟩,fun w hw => D.rng w ((iff w).1 hw),fun w hw y hy => ?_,fun l1 w l2 hl hw => ?_,fun w hw => D.rch w ((iff w).1 hw)⟩
 ·rw [yD]
  refine ⟨hnd.2,by simp,fun a ha b hb => ?_⟩;rw [yd.1 hb];rintro rfl;exact hnd.1 ha
 ·rw [iff]
  rcases yg.1 hw with hw | hw
  ·exact D.cl w hw y hy
  ·rw [yd.1 hw] at hy
   exact hall y hy
 ·rcases yu l2 with h2 | ⟨l2',q,h2⟩
  ·subst h2
   have:=yi hl rfl;injection this with this;exact absurd (this.symm.trans hxr) hw
  ·subst h2
   have h3 : d.out ++ [x] = (l1 ++ w :: l2') ++ [q]:=(by rw [hl]; simp);have e1:=yv h3 rfl;have e2:=yi h3 rfl;injection e2 with e2;subst e2;obtain ⟨p,h5,h6⟩:=D.par l1 w l2' e1;refine ⟨p,h5,?_⟩;rw [hs] at h6;rcases h6 with h6 | h6
   ·simp [h6]
   ·rw [yd.1 h6]; simp
theorem zCl : ∀ (k : Nat) (d : DF),DS succ root d → 2 * (64 - (d.stk.length + d.out.length)) + d.stk.length < k → ∃ o,dfs succ k d = some o ∧ Left succ root o:=by
 intro k
 induction k with
 | zero => intro d _ h; omega
 | succ k ih =>
   intro d D hk;rw [dfs]
   cases hs : d.stk with
   | nil =>
     have:=D.bk;rw [hs] at this;exact this.elim
   | cons x s =>
     simp only
     have hle : d.stk.length + d.out.length ≤ 64:=by
      have:=zib D.nd fun x e => D.rng x (yg.1 e);rw [yq] at this;omega
     cases c : zf9 succ d x with
     | some yj =>
       obtain ⟨y,j⟩:=yj;simp only;obtain ⟨b,f,h2,h3⟩:=zDh hn hr D hs c
       have a : (y :: x :: s).length + d.out.length ≤ 64:=by
        have:=zib b.nd fun x e => b.rng x (yg.1 e);rw [yq] at this;exact yG this hn
       rw [hs] at hk;simp only [yl] at hk a;exact ih _ b (by simp only [yl]; omega)
     | none =>
       simp only
       cases s with
       | nil => exact ⟨_,rfl,zEQ hr D hs c⟩
       | cons z s =>
         have b:=zEp hr D hs c (zxz succ x);rw [hs] at hk hle;simp only [yl] at hk hle;exact ih _ b (by simp only [yq,yl,List.length_nil]; omega)
theorem zzD (d : 0 ≤ root ∧ root < (succ.length : Int)) : ∃ o,dfs succ 200 (zsK root) = some o ∧ Left succ root o:=by
 refine zCl hn hr 200 _ ⟨by simp [zsK,zqb],rfl,fun x a => ?_,fun x e f => ?_,by simp [zsK],rfl,by simp [zsK],fun x a j y b => ?_,fun x _ _ _ => ?_,fun l1 x l2 hl => ?_,fun x a => ?_⟩ (by simp [zsK])
 ·simp only [zsK,yd,yt,or_false] at a
  rw [a]; exact d
 ·simp only [zsK,yd,yt,or_false]
  by_cases c : x = root
  ·subst c
   rw [zbe _ _ (by simp [zqb]; omega)];simp
  ·rw [getD_set_ne _ _ (by omega)]
   simp only [c,iff_false];unfold zqb;rw [yc,yh];split <;> simp
 ·exfalso
  have : zoi.getD x.toNat 0 = 0:=by unfold zoi; rw [yc,yh]; split <;> rfl
  have b : j < zoi.getD x.toNat 0:=b;omega
 ·show zoi.getD x.toNat 0 = 0
  unfold zoi;rw [yc,yh];split <;> rfl
 ·have hl : ([] : List Int) = l1 ++ x :: l2:=hl
  simp at hl
 ·simp only [zsK,yd,yt,or_false] at a
  rw [a];exact ⟨_,.root⟩
end
theorem zzg {x : Int} (b : 0 ≤ x) : ∀ (l : List Int) (i : Nat) (a : List Int),(∀ y ∈ l,0 ≤ y) → x ∉ l → tr (zki i l a) x = tr a x
 | [],_,_,_,_ => rfl
 | y :: l,i,a,hl,hn => by
   rw [zki,zzg b l _ _ (fun z c => hl z (yb _ c)) (fun h => hn (yb _ h))];unfold tr;have:=hl y ya;rw [getD_set_ne _ _ (fun h => hn (by rw [show x = y by omega]; exact ya))]
theorem zAd : ∀ (l : List Int) (i : Nat) (a : List Int),(∀ y ∈ l,0 ≤ y ∧ y < (a.length : Int)) → l.Nodup → ∀ (j : Nat) (x : Int),l[j]? = some x → tr (zki i l a) x = ((i + j : Nat) : Int)
 | [],_,_,_,_,j,x,h => by simp at h
 | y :: l,i,a,hl,hd,j,x,h => by
   have e:=hl y ya;have c:=yn.1 hd;have b : ∀ z ∈ l,0 ≤ z ∧ z < ((a.set y.toNat (i : Int)).length : Int):=fun z d => by rw [List.length_set]; exact hl z (yb _ d)
   rw [zki]
   cases j with
   | zero =>
     simp only [yr,Option.some.injEq] at h;subst h;rw [zzg e.1 l _ _ (fun z d => (b z d).1) c.1];unfold tr;rw [zbe _ _ (by omega),yE]
   | succ j =>
     rw [zAd l (i + 1) _ b c.2 j x (by simpa using h)]
     congr 1
     omega
theorem zsH (i : Int) (out : List (List Int)) (x : Int) (X : Nat) (b : 0 ≤ x) (a : X < out.length) : (zs4 i out x).getD X [] = if x = X then out.getD X [] ++ [i] else out.getD X []:=by
 unfold zs4
 by_cases c : x = (X : Int)
 ·subst c
  rw [if_pos rfl,yA,zbe _ _ a]
 ·rw [if_neg c,getD_set_ne _ _ (by omega)]
theorem zo2 (i : Int) (X : Nat) (y : Int) : ∀ (l : List Int) (out : List (List Int)),(∀ x ∈ l,0 ≤ x) → X < out.length → (y ∈ (l.foldl (zs4 i) out).getD X [] ↔ y ∈ out.getD X [] ∨ (y = i ∧ (X : Int) ∈ l))
 | [],out,_,_ => by simp
 | x :: l,out,hl,hX => by
   rw [List.foldl_cons,zo2 i X y l _ (fun z d => hl z (yb _ d)) (by rw [zfT]; exact hX),zsH i out x X (hl x ya) hX]
   by_cases c : x = (X : Int)
   ·rw [if_pos c,yg,yd,ye]
    constructor
    ·rintro ((h | h) | h)
     ·exact .inl h
     ·exact .inr ⟨h,.inl c.symm⟩
     ·exact .inr ⟨h.1,.inr h.2⟩
    ·rintro (h | h)
     ·exact .inl (.inl h)
     ·exact .inl (.inr h.1)
   ·rw [if_neg c,ye]
    constructor
    ·rintro (h | h)
     ·exact .inl h
     ·exact .inr ⟨h.1,.inr h.2⟩
    ·rintro (h | ⟨b,a | a⟩)
     ·exact .inl h
     ·exact absurd a.symm c
     ·exact .inr ⟨b,a⟩
theorem zmu (X : Nat) (y : Int) : ∀ (l : List (List Int)) (i : Nat) (out : List (List Int)),(∀ r ∈ l,∀ x ∈ r,0 ≤ x) → X < out.length → (y ∈ (za7 i l out).getD X [] ↔ y ∈ out.getD X [] ∨ ∃ j r,l[j]? = some r ∧ y = ((i + j : Nat) : Int) ∧ (X : Int) ∈ r)
 | [],i,out,_,_ => by simp [za7]
 | r :: l,i,out,hl,hX => by
   rw [za7,zmu X y l (i + 1) _ (fun z d => hl z (yb _ d)) (by rw [zge]; exact hX),zo2 (i : Int) X y r out (hl r ya) hX];constructor
   ·rintro ((h | h) | ⟨j,q,a,c,b⟩)
    ·exact .inl h
    ·exact .inr ⟨0,r,rfl,by rw [h.1,yE],h.2⟩
    ·exact .inr ⟨j + 1,q,by simpa using a,by rw [c]; congr 1; omega,b⟩
   ·rintro (h | ⟨j,q,a,c,b⟩)
    ·exact .inl (.inl h)
    ·cases j with
     | zero =>
       simp only [yr,Option.some.injEq] at a;subst a;exact .inl (.inr ⟨by rw [c,yE],b⟩)
     | succ j => exact .inr ⟨j,q,by simpa using a,by rw [c]; congr 1; omega,b⟩
theorem zpU {n : Int} : ∀ {l : List Int} {last : Int},zP n last l = true → ∀ x ∈ l,last < x ∧ x < n
 | [],_,_ => by simp
 | y :: r,last,h => by
   simp only [zP] at h;split at h
   ·cases h
   ·rename_i c
    intro x a;rcases ye.1 a with rfl | a
    ·omega
    ·have:=zpU h x a
     omega
theorem zez {succ : List (List Int)} (h : zbk succ = true) : 1 ≤ succ.length ∧ succ.length ≤ 64 ∧ ∀ l ∈ succ,∀ y ∈ l,0 ≤ y ∧ y < (succ.length : Int):=by
 unfold zbk at h;simp only [Bool.not_eq_true',Bool.or_eq_false_iff,decide_eq_false_iff_not,List.any_eq_false] at h;refine ⟨by omega,by omega,fun l b y c => ?_⟩;have a : rising l succ.length = true:=by simpa using h.2.2 l b
 have:=zpU a y c;omega
theorem zmK {succ : List (List Int)} (d : ∀ l ∈ succ,∀ y ∈ l,0 ≤ y ∧ y < (succ.length : Int)) {x : Int} (i : 0 ≤ x ∧ x < (succ.length : Int)) (p : Int) : p ∈ (zN succ).getD x.toNat [] ↔ Eg succ p x:=by
 unfold zN;rw [zmu x.toNat p succ 0 _ (fun l f y g => (d l f y g).1) (by simp; omega)]
 have e0 : (ys succ.length ([] : List Int)).getD x.toNat [] = []:=by
  rw [yc,yh];split <;> rfl
 rw [e0];have ex : ((x.toNat : Nat) : Int) = x:=by omega
 rw [ex];constructor
 ·rintro (h | ⟨j,r,c,e,b⟩)
  ·simp at h
  ·have k:=(yk.1 c).1
   refine ⟨by omega,by omega,?_⟩;rw [show p.toNat = j by omega,yc,c];exact b
 ·rintro ⟨c,e,b⟩
  have a : p.toNat < succ.length:=by omega
  rw [yc,yf a] at b;exact .inr ⟨p.toNat,succ[p.toNat],yf a,by omega,b⟩
structure TreeOf (succ : List (List Int)) (root : Int) (O : Int → Prop) (pos : Int → Nat) (t : List Int) : Prop where
 len : t.length = succ.length
 ord : Ord (Eg succ) root O pos
 rng : ∀ a,O a → 0 ≤ a ∧ a < (succ.length : Int)
 inv : Inv (Eg succ) root O pos (tf t)
 st : ∀ x,O x → x ≠ root → St (Eg succ) root (tf t) x
 low : ∀ a,O a → pos a < succ.length
 rch : ∀ a,O a ↔ ∃ l,Way (Eg succ) root a l
theorem zBD {n root : Nat} (h : root < n) (x : Int) : tf (zkV n root) x = if x = root then (root : Int) else -2:=by
 unfold tf zkV
 by_cases c : 0 ≤ x
 ·rw [if_pos c]
  have e : tr ((ys n (-2 : Int)).set ((root : Nat) : Int).toNat root) x = if x = root then (root : Int) else tr (ys n (-2 : Int)) x:=zwe _ ⟨by omega,by simp; omega⟩ c
  rw [yA] at e;rw [e];split
  ·rfl
  ·unfold tr
   rw [yc,yh];split <;> rfl
 ·rw [if_neg c,if_neg (by omega)]
theorem zDt {succ : List (List Int)} (hm : zbk succ = true) {root : Nat} (h0 : root < succ.length) :
  ∃ o o0 tail t O pos,dfs succ 200 (zsK root) = some o ∧ o.reverse = o0 :: tail ∧ (∀ x ∈ o,0 ≤ x ∧ x < (succ.length : Int)) ∧ o.length ≤ 64 ∧
    zhb (zN succ) (at0 succ.length o.reverse) 200 tail 5000 (zkV succ.length root) = some t ∧ TreeOf succ root O pos t ∧ (∀ x,O x ↔ x ∈ o):=by
 obtain ⟨n1,n64,hr⟩:=zez hm;obtain ⟨o,ho,L⟩:=zzD (root:=(root : Int)) n64 hr (by omega);obtain ⟨D,v⟩:=L.last;have m : o.reverse = (root : Int) :: D.reverse:=by rw [v]; simp
 have V : o.reverse.Nodup:=List.pairwise_reverse.2 (L.nd.imp fun h => h.symm);have hlen : o.length ≤ 64:=yG (zib L.nd L.rng) n64;have aG : o.reverse.length ≤ succ.length:=by rw [yx]; exact zib L.nd L.rng
 obtain ⟨B,s⟩ : ∃ a,a = at0 succ.length o.reverse:=⟨_,rfl⟩;have aD : B.length = succ.length:=by rw [s,at0,ziM]; simp
 have C : ∀ (j : Nat) (x : Int),o.reverse[j]? = some x → tr B x = (j : Int):=fun j x h => by
  have:=zAd o.reverse 0 (ys succ.length 0) (fun y Y => by rw [List.length_replicate]; exact L.rng y (ym.1 Y)) V j x h;rw [s,at0,this,Nat.zero_add]
 obtain ⟨pos,Z⟩ : ∃ p : Int → Nat,p = fun a => (tr B a).toNat:=⟨_,rfl⟩;have z : ∀ (j : Nat) (x : Int),o.reverse[j]? = some x → pos x = j:=fun j x h => by rw [Z]; simp only; rw [C j x h]; omega
 have hex : ∀ x,x ∈ o → ∃ j : Nat,o.reverse[j]? = some x ∧ j < o.reverse.length:=fun x g => by
  obtain ⟨j,J⟩:=yo.1 (ym.2 g);exact ⟨j,J,(yk.1 J).1⟩
 have N : o.reverse[0]? = some (root : Int):=by rw [m]; rfl
 have G : (root : Int) ∈ o:=by rw [v]; simp
 have aE : ∀ a,a ∈ o → tr B a = (pos a : Int):=fun a u => by
  obtain ⟨j,f,_⟩:=hex a u;rw [C j a f,z j a f]
 have H : Ord (Eg succ) (root : Int) (· ∈ o) pos:=by
  refine ⟨G,fun a b u hb h => ?_,fun a _ => ?_,fun x g aC => ?_,fun p x r e => L.cl p r x e⟩
  ·obtain ⟨i,f,_⟩:=hex a u
   obtain ⟨j,k,_⟩:=hex b hb;rw [z i a f,z j b k] at h;subst h;rw [f] at k;injection k
  ·rw [z 0 _ N]; omega
  ·obtain ⟨l1,l2,hl⟩:=List.append_of_mem g
   obtain ⟨p,e,W⟩:=L.par l1 x l2 hl aC;have S : o.reverse = l2.reverse ++ (x :: l1.reverse):=by rw [hl]; simp
   have aB : o.reverse[l2.length]? = some x:=by
    rw [S,List.getElem?_append_right (by simp)];simp
   obtain ⟨j,J⟩:=yo.1 (ym.2 W);have P:=(yk.1 J).1;rw [yx] at P;have r : o.reverse[j]? = some p:=(by rw [S,List.getElem?_append_left (by simpa using P)]; exact J);exact ⟨p,by rw [hl]; simp [W],e,by rw [z _ _ aB,z _ _ r]; exact P⟩
 have Q : ∀ a,a ∈ o → 0 ≤ a ∧ a < (succ.length : Int):=L.rng
 have q : ∀ a,a ∈ o → pos a < succ.length:=fun a u => by
  obtain ⟨j,f,k⟩:=hex a u;rw [z j a f];omega
 have A:=zBD (n:=succ.length) h0
 have I : Inv (Eg succ) (root : Int) (· ∈ o) pos (tf (zkV succ.length root)):=by
  have hz : ∀ x : Int,x ≠ (root : Int) → ¬ tf (zkV succ.length root) x ≠ -2:=fun x g h => h (by rw [A,if_neg g]);refine ⟨fun x g => ?_,by rw [A,if_pos rfl],fun x g h => ?_,fun x f k => absurd k (hz x f),fun x d f k => absurd k (hz x f),fun x f k => absurd k (hz x f),fun x f k => absurd k (hz x f)⟩
  ·rw [A,if_neg]
   rintro rfl;exact g G
  ·have:=(Q x g).1
   omega
 have X : o.reverse.Pairwise (fun a b => pos a < pos b):=by
  rw [List.pairwise_iff_getElem];intro i j hi J aA;rw [z i _ (yf hi),z j _ (yf J)];exact aA
 rw [m] at X
 have E : ∀ x ∈ D.reverse,x ∈ o ∧ x ≠ (root : Int):=fun x g => by
  have aF : x ∈ o:=by rw [v]; simp [ym.1 g]
  refine ⟨aF,?_⟩;rintro rfl;have:=V;rw [m,yn] at this;exact this.1 g
 have R : ∀ y,y ∈ o → y ≠ (root : Int) → y ∈ D.reverse:=fun y Y hn => by
  rw [v] at Y;simp only [yg,yd] at Y;exact ym.2 (Y.resolve_right hn)
 have U : (D.reverse.map (wgt pos 64 (zkV succ.length root))).sum < 5000:=by
  have hle : ∀ l : List Int,(l.map (wgt pos 64 (zkV succ.length root))).sum ≤ 64 * l.length:=by
   intro l
   induction l with
   | nil => simp
   | cons x l ih =>
     simp only [yB,yC,yl]
     have : wgt pos 64 (zkV succ.length root) x ≤ 64:=by
      unfold wgt;rw [A]
      by_cases c : x = (root : Int)
      ·rw [if_pos c,if_neg (by omega)]
       have:=q _ G;omega
      ·rw [if_neg c,if_pos rfl]
       exact yw _
     omega
  have f:=hle D.reverse
  have k : D.reverse.length ≤ 64:=by
   rw [v] at hlen;simp at hlen ⊢;omega
  omega
 obtain ⟨t,f,k,h3,h4⟩:=zCa H Q aD aE (fun x g p => zmK hr (Q x g) p) (fun x g p r => by
  have:=(zmK hr (Q x g) p).1 r
  exact ⟨this.1,this.2.1⟩) (K:=200) (M:=64) (fun a u => by have:=q a u; omega) (fun a u => by have:=q a u; omega) D.reverse E (yy.1 X).2 R 5000 (zkV succ.length root) (by simp [zkV]) I U
 refine ⟨o,root,D.reverse,t,(· ∈ o),pos,ho,m,Q,hlen,by rw [← s]; exact f,⟨k,H,Q,h3,h4,q,fun a => ⟨fun u => L.rch a u,fun ⟨l,w⟩ => (zwh H w).1⟩⟩,fun _ => Iff.rfl⟩
end AC

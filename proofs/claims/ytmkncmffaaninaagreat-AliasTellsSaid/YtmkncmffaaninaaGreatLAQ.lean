/- A part of the proof of AliasTells. Conditions: none. -/
import Derived.Test.YtmkncmffaaninaaGreatLAP
import Derived.Test.YtmkncmffaaninaaGreatLAO
set_option linter.all false
open List renaming mem_cons_self → ya,mem_cons_of_mem → yb,getD_eq_getElem?_getD → yc,length_map → yd,getElem?_eq_getElem → yf,mem_cons → yh,mem_singleton → yi,pairwise_cons → yk,getElem?_eq_none → yl,getElem?_replicate → ym,drop_eq_getElem_cons → yn,mem_append → yp,length_cons → yr,getElem?_eq_some_iff → ys,length_append → yt,replicate → yu,append_inj_right' → yw,drop_length → yx,ext_getElem? → yy,getElem_mem → yz,mem_reverse → yA,getElem?_cons_zero → yB,drop_zero → yC,getElem?_set_self → yD,nodup_cons → yE,mem_iff_getElem? → yF,append_assoc → yG,singleton_append → yH,mem_of_getElem? → yI,length_nil → yJ,any_eq_false → yL,take_of_length_le → yM,not_mem_nil → yN,eq_nil_or_concat → yO,append_inj_left' → yP,getElem?_set_ne → yS,length_reverse → yU,getElem?_drop → yW,map_cons → yX,sum_cons → yY,nodup_append → yZ,all_cons → y1,cons_append → y2,length_set → y4,foldl_cons → y5,append_nil → y6,nil_append → y7,length → yaa,range → yae,all_nil → yaf,map_set → yag,map → yah
open Int renaming toNat_natCast → ye,natCast_nonneg → yg,natCast_zero → yq,lt_irrefl → yv
open Bool renaming false_eq_true → yo,or_eq_false_iff → yR,not_eq_true' → y0,not_not → y3,or_eq_true → y8,false_or → yad
open Nat renaming add_zero → yK,zero_add → yQ,le_refl → yT,add_sub_cancel → yV,add_assoc → y9,le_trans → yab,add_comm → yac
namespace AC
open Dm
theorem zzz {t : List Int} {x y : Int} (b : Int) (d : 0 ≤ x ∧ x < t.length) (a : 0 ≤ y) : tr (t.set x.toNat b) y = if y = x then b else tr t y:=by
 unfold tr
 by_cases c : y = x
 ·subst c
  rw [if_pos rfl,zbO _ _ (by omega)]
 ·rw [if_neg c,getD_set_ne _ _ (by omega)]
def tf (t : List Int) (x : Int) : Int:=if 0 ≤ x then tr t x else -2
theorem zxB {t : List Int} {x : Int} (h : 0 ≤ x) : tf t x = tr t x:=by unfold tf; rw [if_pos h]
theorem zzB {n : Nat} {a : Int} (h : 0 ≤ a ∧ a < (n : Int)) : inR n a = true:=by simp [inR,h.1,h.2]
section
variable {E : Int → Int → Prop} {root : Int} {O : Int → Prop} {pos : Int → Nat} {n : Nat} {at' : List Int}
variable (H : Ord E root O pos) (hO : ∀ a,O a → 0 ≤ a ∧ a < (n : Int)) (hal : at'.length = n) (hat : ∀ a,O a → tr at' a = (pos a : Int))
section
variable {t : List Int} (htl : t.length = n) (I : Inv E root O pos (tf t))
include H hO hal hat htl I
theorem zth {b : Int} (j : tf t b ≠ -2) : ∀ (r : Nat) (a : Int),tf t a ≠ -2 → pos a < r → ∃ c,zq6 t at' r a b = some c ∧ tf t c ≠ -2 ∧ pos c ≤ pos b ∧ pos c ≤ pos a ∧ (pos b < pos a → pos c < pos a) ∧ (∀ y,(Anc root (tf t) y a ∧ Anc root (tf t) y b) ↔ (Anc root (tf t) y c ∧ Anc root (tf t) y b)):=by
 intro r
 induction r with
 | zero => intro a _ h; omega
 | succ r ih =>
   intro a f w;have n:=zk3 H I f;have g:=zk3 H I j;have l:=hO a n;have rb:=hO b g
   have e : (inR t.length a && (inR at'.length a && inR at'.length b)) = true:=by
    rw [htl,hal,zzB l,zzB rb];rfl
   rw [zq6,if_pos e,hat a n,hat b g]
   by_cases c : pos b < pos a
   ·rw [if_pos (by omega)]
    have m : a ≠ root:=by
     rintro rfl;have:=H.low b g;omega
    obtain ⟨p1,p2⟩:=I.par a m f;have ea:=zxB (t:=t) l.1;rw [ea] at p1 p2;obtain ⟨u,s,p,q,x,v,o⟩:=ih (tr t a) p1 (by omega);refine ⟨u,s,p,q,by omega,fun _ => by omega,fun y => ?_⟩;rw [← o y];constructor
    ·rintro ⟨k,d⟩
     refine ⟨?_,d⟩
     have i : y ≠ a:=by
      rintro rfl;have:=zwi H I d j;omega
     have:=(zpL k i).2
     rwa [ea] at this
    ·rintro ⟨k,d⟩
     exact ⟨.step m (by rwa [ea]),d⟩
   ·rw [if_neg (by omega)]
    exact ⟨a,rfl,f,by omega,yT _,fun h => absurd h c,fun _ => Iff.rfl⟩
theorem zCA {K : Nat} (l : ∀ a,O a → pos a < K) : ∀ (r : Nat) (a b : Int),tf t a ≠ -2 → tf t b ≠ -2 → pos a + pos b < r → ∃ c,zwH t at' K r a b = some c ∧ tf t c ≠ -2 ∧ ∀ y,Anc root (tf t) y c ↔ Anc root (tf t) y a ∧ Anc root (tf t) y b:=by
 intro r
 induction r with
 | zero => intro a b _ _ h; omega
 | succ r ih =>
   intro a b f d D;rw [zwH]
   by_cases c : a = b
   ·subst c
    rw [if_pos rfl];exact ⟨a,rfl,f,fun y => ⟨fun h => ⟨h,h⟩,fun h => h.1⟩⟩
   ·rw [if_neg c]
    have B : pos a ≠ pos b:=fun h => c (H.inj a b (zk3 H I f) (zk3 H I d) h);obtain ⟨s,w,m,E,J,A,k⟩:=zth H hO hal hat htl I d K a f (l a (zk3 H I f));obtain ⟨q,o,z,C,L,G,n⟩:=zth H hO hal hat htl I m K b d (l b (zk3 H I d));rw [w];simp only [o];obtain ⟨x,u,p,v⟩:=ih s q m z (by omega);refine ⟨x,u,p,fun y => ?_⟩;rw [v y];constructor
    ·rintro ⟨e,i⟩
     have g:=(n y).2 ⟨i,e⟩;have j:=(k y).2 ⟨e,g.1⟩;exact j
    ·rintro ⟨e,i⟩
     have g:=(k y).1 ⟨e,i⟩;have j:=(n y).1 ⟨i,g.1⟩;exact ⟨g.1,j.1⟩
theorem zok {K : Nat} (s : ∀ a,O a → 2 * pos a < K) : ∀ (ps : List Int) (b : Int),(∀ p ∈ ps,0 ≤ p ∧ p < (n : Int)) → (b = -2 ∨ tf t b ≠ -2) → ∃ c,zoc t at' K ps b = some c ∧ ((c = -2 ∧ b = -2 ∧ ∀ p ∈ ps,tf t p = -2) ∨ (tf t c ≠ -2 ∧ ∀ y,Anc root (tf t) y c ↔ (∀ p ∈ ps,tf t p ≠ -2 → Anc root (tf t) y p) ∧ (b ≠ -2 → Anc root (tf t) y b)))
 | [],b,_,r => by
   refine ⟨b,rfl,?_⟩;rcases r with rfl | r
   ·exact .inl ⟨rfl,rfl,by simp⟩
   ·exact .inr ⟨r,fun y => ⟨fun h => ⟨by simp,fun _ => h⟩,fun h => h.2 (I.nn _ (zk3 H I r))⟩⟩
 | p :: ps,b,hp,r => by
   have z:=hp p ya;have o:=fun q e => hp q (yb _ e);rw [zoc,if_pos (by rw [htl]; exact zzB z)];have ep:=zxB (t:=t) z.1
   by_cases c : tr t p = -2
   ·rw [if_pos c]
    obtain ⟨x,w,v⟩:=zok s ps b o r;refine ⟨x,w,?_⟩;rcases v with ⟨l,k,A⟩ | ⟨l,k⟩
    ·refine .inl ⟨l,k,fun q e => ?_⟩
     rcases yh.1 e with rfl | e
     ·rw [ep]; exact c
     ·exact A q e
    ·refine .inr ⟨l,fun y => ?_⟩
     rw [k y];constructor
     ·rintro ⟨f,j⟩
      refine ⟨fun q e g => ?_,j⟩;rcases yh.1 e with rfl | e
      ·rw [ep] at g; exact absurd c g
      ·exact f q e g
     ·rintro ⟨f,j⟩
      exact ⟨fun q e g => f q (yb _ e) g,j⟩
   ·rw [if_neg c]
    have i : tf t p ≠ -2:=by rw [ep]; exact c
    by_cases d : b = -2
    ·rw [if_pos d]
     obtain ⟨x,w,v⟩:=zok s ps p o (.inr i);refine ⟨x,w,?_⟩;rcases v with ⟨l,k,A⟩ | ⟨l,k⟩
     ·have:=z.1
      omega
     ·refine .inr ⟨l,fun y => ?_⟩
      rw [k y];constructor
      ·rintro ⟨f,j⟩
       refine ⟨fun q e g => ?_,fun h => absurd d h⟩;rcases yh.1 e with rfl | e
       ·exact j (by have:=z.1; omega)
       ·exact f q e g
      ·rintro ⟨f,j⟩
       exact ⟨fun q e g => f q (yb _ e) g,fun _ => f p ya i⟩
    ·rw [if_neg d]
     have u : tf t b ≠ -2:=r.resolve_left d;obtain ⟨m,m1,m2,C⟩:=zCA H hO hal hat htl I (K:=K) (fun a D => by have:=s a D; omega) K b p u i (by have:=s b (zk3 H I u); have:=s p (zk3 H I i); omega);rw [m1];obtain ⟨x,w,v⟩:=zok s ps m o (.inr m2);refine ⟨x,w,?_⟩;rcases v with ⟨l,k,A⟩ | ⟨l,k⟩
     ·rw [k] at m2
      exact absurd rfl (I.nn _ (zk3 H I m2))
     ·refine .inr ⟨l,fun y => ?_⟩
      rw [k y];constructor
      ·rintro ⟨f,j⟩
       have B:=(C y).1 (j (I.nn _ (zk3 H I m2)));refine ⟨fun q e g => ?_,fun _ => B.1⟩;rcases yh.1 e with rfl | e
       ·exact B.2
       ·exact f q e g
      ·rintro ⟨f,j⟩
       exact ⟨fun q e g => f q (yb _ e) g,fun _ => (C y).2 ⟨j d,f p ya i⟩⟩
end
variable {pred : List (List Int)} (hpr : ∀ x,O x → ∀ p,p ∈ pred.getD x.toNat [] ↔ E p x) (hpn : ∀ x,O x → ∀ p ∈ pred.getD x.toNat [],0 ≤ p ∧ p < (n : Int))
section
variable {t : List Int} (htl : t.length = n) (I : Inv E root O pos (tf t))
include H hO hal hat hpr hpn htl I
theorem zvW {K : Nat} (A : ∀ a,O a → 2 * pos a < K) : ∀ (l : List Int),(∀ x ∈ l,O x ∧ x ≠ root) → l.Pairwise (fun a b => pos a < pos b) → (∀ y,O y → y ≠ root → y ∉ l → (∀ x ∈ l,pos y < pos x) → St E root (tf t) y) → (∀ y,O y → y ≠ root → y ∉ l → (∀ x ∈ l,pos y < pos x) ∨ False) →
  (zuH pred t at' K l = some none ∧ ∀ x ∈ l,St E root (tf t) x) ∨ (∃ x b,zuH pred t at' K l = some (some (x,b)) ∧ x ∈ l ∧ Upd E root O pos (tf t) (tf (t.set x.toNat b)) x b)
 | [],_,_,_,_ => .inl ⟨rfl,by simp⟩
 | x :: l,hl,hs,hst,hall => by
   obtain ⟨m,n⟩:=hl x ya;have rx:=hO x m;have k:=yk.1 hs
   have early : ∀ y,O y → y ≠ root → pos y < pos x → St E root (tf t) y:=fun y i f q => by
    have g : y ∉ x :: l:=by
     intro h;rcases yh.1 h with rfl | h
     ·omega
     ·have:=k.1 y h; omega
    exact hst y i f g ((hall y i f g).resolve_right id)
   obtain ⟨c,i,f⟩:=zok H hO hal hat htl I A (pred.getD x.toNat []) (-2) (hpn x m) (.inl rfl);rcases f with ⟨s,C,D⟩ | ⟨s,C⟩
   ·obtain ⟨p,L,G,M⟩:=H.par x m n
    have:=D p ((hpr x m p).2 G);exact absurd this (zu2 H I early L M)
   ·have o : ∀ y,Anc root (tf t) y c ↔ Com E root (tf t) x y:=fun y => by
     rw [C y];constructor
     ·rintro ⟨w,_⟩ p e r
      exact w p ((hpr x m p).2 e) r
     ·intro w
      exact ⟨fun p r g => w p ((hpr x m p).1 r) g,fun h => absurd rfl h⟩
    have ex:=zxB (t:=t) rx.1;rw [zuH,if_pos (by rw [htl]; exact zzB rx),i];simp only
    by_cases d : tr t x = c
    ·rw [if_pos d]
     have B : St E root (tf t) x:=by
      refine ⟨?_,fun y => ?_⟩
      ·rw [ex,d]
       exact I.nn _ (zk3 H I s)
      ·rw [ex,d]
       exact o y
     have:=zvW A l (fun y j => hl y (yb _ j)) k.2 (fun y i f q P => ?_) (fun y i f q => ?_)
     ·rcases this with ⟨u,v⟩ | ⟨y,b,u,v,J⟩
      ·refine .inl ⟨u,fun y j => ?_⟩
       rcases yh.1 j with rfl | j
       ·exact B
       ·exact v y j
      ·exact .inr ⟨y,b,u,yb _ v,J⟩
     ·by_cases e : y = x
      ·rw [e]; exact B
      ·have g : y ∉ x :: l:=fun h => (yh.1 h).elim e q
       exact hst y i f g ((hall y i f g).resolve_right id)
     ·by_cases e : y = x
      ·rw [e]; exact .inl k.1
      ·have g : y ∉ x :: l:=fun h => (yh.1 h).elim e q
       exact .inl fun z N => ((hall y i f g).resolve_right id) z (yb _ N)
    ·rw [if_neg d]
     refine .inr ⟨x,c,rfl,ya,?_,fun y j => ?_,m,n,early,s,o,?_⟩
     ·rw [zxB rx.1,zzz c (by rw [htl]; exact rx) rx.1,if_pos rfl]
     ·unfold tf
      by_cases e : 0 ≤ y
      ·rw [if_pos e,if_pos e,zzz c (by rw [htl]; exact rx) e,if_neg j]
      ·rw [if_neg e,if_neg e]
     ·rw [ex]
      exact fun h => d h.symm
end
def wgt (pos : Int → Nat) (M : Nat) (t : List Int) (x : Int) : Nat:=if tf t x = -2 then M else pos (tf t x)
theorem zJl {l : List Int} {f g : Int → Nat} (h : ∀ x ∈ l,g x ≤ f x) {z : Int} (c : z ∈ l) (j : g z < f z) : (l.map g).sum < (l.map f).sum:=by
 induction l with
 | nil => cases c
 | cons a l ih =>
   have le : ∀ l : List Int,(∀ x ∈ l,g x ≤ f x) → (l.map g).sum ≤ (l.map f).sum:=by
    intro l
    induction l with
    | nil => intro _; exact yT _
    | cons b l ih =>
      intro h;have i:=h b ya;have k:=ih fun x d => h x (yb _ d);simp only [yX,yY];omega
   simp only [yX,yY];have i:=h a ya;have e:=fun x d => h x (yb a d);rcases yh.1 c with rfl | c
   ·have:=le l e
    omega
   ·have:=ih e c
    omega
include H hO hal hat hpr hpn in
theorem zGk {K M : Nat} (l : ∀ a,O a → 2 * pos a < K) (k : ∀ a,O a → pos a < M) (tail : List Int) (p : ∀ x ∈ tail,O x ∧ x ≠ root) (o : tail.Pairwise (fun a b => pos a < pos b)) (e : ∀ y,O y → y ≠ root → y ∈ tail) :
  ∀ (r : Nat) (t : List Int),t.length = n → Inv E root O pos (tf t) → (tail.map (wgt pos M t)).sum < r → ∃ t',ziH pred at' K tail r t = some t' ∧ t'.length = n ∧ Inv E root O pos (tf t') ∧ ∀ x,O x → x ≠ root → St E root (tf t') x:=by
 intro r
 induction r with
 | zero => intro t _ _ h; omega
 | succ r ih =>
   intro t htl I q;rw [ziH];rcases zvW H hO hal hat hpr hpn htl I l tail p o (fun y g f i => absurd (e y g f) i) (fun y g f i => absurd (e y g f) i) with ⟨g,f⟩ | ⟨x,b,g,f,U⟩
   ·rw [g]
    exact ⟨t,rfl,htl,I,fun x i m => f x (e x i m)⟩
   ·rw [g]
    refine ih _ (by simp [htl]) (zHv H I U) ?_
    have key : (tail.map (wgt pos M (t.set x.toNat b))).sum < (tail.map (wgt pos M t)).sum:=by
     obtain ⟨m1,m2,s⟩:=zIp H I U;have j:=k b (zk3 H I U.hm);refine zJl (fun y _ => ?_) f ?_
     ·by_cases c : y = x
      ·subst c
       unfold wgt;rw [U.at',if_neg m2];split
       ·omega
       ·rename_i d
        exact Nat.le_of_lt (zC5 H I U d)
      ·unfold wgt
       rw [U.ne y c];exact yT _
     ·unfold wgt
      rw [U.at',if_neg m2];split
      ·exact j
      ·rename_i d
       exact zC5 H I U d
    omega
end
def Eg (succ : List (List Int)) (p x : Int) : Prop:=0 ≤ p ∧ p < (succ.length : Int) ∧ x ∈ succ.getD p.toNat []
section
variable (succ : List (List Int)) (root : Int)
def zLm : List Int → Prop
 | [] => False
 | [x] => x = root
 | x :: y :: s => Eg succ y x ∧ zLm (y :: s)
structure DS (d : DF) : Prop where
 sl : d.seen.length = 64
 nl : d.next.length = 64
 rng : ∀ x,x ∈ d.stk ∨ x ∈ d.out → 0 ≤ x ∧ x < (succ.length : Int)
 mem : ∀ x,0 ≤ x → x < (succ.length : Int) → (d.seen.getD x.toNat false = true ↔ x ∈ d.stk ∨ x ∈ d.out)
 nd : (d.stk ++ d.out).Nodup
 bk : zLm succ root d.stk
 cl : ∀ x ∈ d.out,∀ y,Eg succ x y → y ∈ d.stk ∨ y ∈ d.out
 nx : ∀ x ∈ d.stk,∀ j y,j < d.next.getD x.toNat 0 → (succ.getD x.toNat [])[j]? = some y → y ∈ d.stk ∨ y ∈ d.out
 fr : ∀ x,0 ≤ x → x < (succ.length : Int) → ¬ (x ∈ d.stk ∨ x ∈ d.out) → d.next.getD x.toNat 0 = 0
 par : ∀ l1 x l2,d.out = l1 ++ x :: l2 → ∃ p,Eg succ p x ∧ (p ∈ l2 ∨ p ∈ d.stk)
 rch : ∀ x,x ∈ d.stk ∨ x ∈ d.out → ∃ l,Way (Eg succ) root x l
end
theorem zvX {seen : List Bool} : ∀ {l : List Int} {k : Nat} {y : Int} {j : Nat},scan seen l k = some (y,j) → ∃ i,j = k + i + 1 ∧ l[i]? = some y ∧ seen.getD y.toNat false = false ∧ ∀ i' z,i' < i → l[i']? = some z → seen.getD z.toNat false = true
 | [],_,_,_,h => by simp [scan] at h
 | z :: r,k,y,j,h => by
   simp only [scan] at h;split at h
   ·rename_i c
    obtain ⟨i,d,h2,h3,b⟩:=zvX h;refine ⟨i + 1,by omega,by simpa using h2,h3,fun i' w a hw => ?_⟩
    cases i' with
    | zero => simp at hw; rw [← hw]; exact c
    | succ i' => exact b i' w (by omega) (by simpa using hw)
   ·rename_i c
    simp only [Option.some.injEq,Prod.mk.injEq] at h;obtain ⟨rfl,rfl⟩:=h;exact ⟨0,by omega,rfl,by simpa using c,fun i' w a => by omega⟩
theorem zwg {seen : List Bool} : ∀ {l : List Int} {k : Nat},scan seen l k = none → ∀ z ∈ l,seen.getD z.toNat false = true
 | [],_,_ => by simp
 | z :: r,k,h => by
   simp only [scan] at h;split at h
   ·rename_i c
    intro w hw;rcases yh.1 hw with rfl | hw
    ·exact c
    ·exact zwg h w hw
   ·cases h
theorem zjZ {l : List Int} {n : Nat} (hd : l.Nodup) (h : ∀ x ∈ l,0 ≤ x ∧ x < (n : Int)) : l.length ≤ n:=by
 have:=hd.length_le_of_subset (l₂:=(yae n).map fun i : Nat => (i : Int)) (fun x a => by
  obtain ⟨b,h2⟩:=h x a
  exact List.mem_map.2 ⟨x.toNat,List.mem_range.2 (by omega),by omega⟩)
 simpa using this
section
variable {succ : List (List Int)} {root : Int} (hn : succ.length ≤ 64) (hr : ∀ l ∈ succ,∀ y ∈ l,0 ≤ y ∧ y < (succ.length : Int))
include hr in
theorem zzt {x y : Int} (h : Eg succ x y) : 0 ≤ y ∧ y < (succ.length : Int):=by
 obtain ⟨b,h2,h3⟩:=h;have a : x.toNat < succ.length:=by omega
 rw [yc,yf a] at h3;exact hr _ (yz a) y h3
include hn hr
theorem zH8 {d : DF} (D : DS succ root d) {x : Int} {s : List Int} (hs : d.stk = x :: s) {y : Int} {j : Nat} (h : zhz succ d x = some (y,j)) :
  DS succ root ⟨d.seen.set y.toNat true,d.next.set x.toNat j,d.out,y :: x :: s⟩ ∧ ¬ (y ∈ d.stk ∨ y ∈ d.out) ∧ 0 ≤ y ∧ y < (succ.length : Int):=by
 obtain ⟨i,rfl,h2,h3,u⟩:=zvX h;have rx:=D.rng x (.inl (by rw [hs]; exact ya));have f : (succ.getD x.toNat [])[d.next.getD x.toNat 0 + i]? = some y:=by simpa using h2
 have e : Eg succ x y:=⟨rx.1,rx.2,yI f⟩;have ry:=zzt hr e
 have b : ¬ (y ∈ d.stk ∨ y ∈ d.out):=fun hm => by
  have:=(D.mem y ry.1 ry.2).2 hm;rw [h3] at this;cases this
 have r : x ≠ y:=fun h => b (.inl (by rw [hs,← h]; exact ya));have o:=D.sl;have n:=D.nl
 have up : ∀ z,(z ∈ d.stk ∨ z ∈ d.out) → (z ∈ y :: x :: s ∨ z ∈ d.out):=fun z a => by
  rw [hs] at a;rcases a with a | a
  ·exact .inl (yb _ a)
  ·exact .inr a
 have dn : ∀ z,(z ∈ y :: x :: s ∨ z ∈ d.out) → z = y ∨ (z ∈ d.stk ∨ z ∈ d.out):=fun z a => by
  rw [hs];rcases a with a | a
  ·rcases yh.1 a with a | a
   ·exact .inl a
   ·exact .inr (.inl a)
  ·exact .inr (.inr a)
 refine ⟨⟨by simp [o],by simp [n],fun z a => ?_,fun z z0 m => ?_,?_,?_,fun z a w hw => up w (D.cl z a w hw),fun z a k w hk hw => ?_,fun z z0 m a => ?_,fun l1 z l2 hl => ?_,fun z a => ?_⟩,b,ry⟩
 ·rcases dn z a with rfl | a
  ·exact ry
  ·exact D.rng z a
 ·by_cases c : z = y
  ·subst c
   rw [zbO _ _ (by omega)];simp
  ·rw [getD_set_ne _ _ (by omega),D.mem z z0 m]
   exact ⟨up z,fun h => (dn z h).resolve_left c⟩
 ·show (y :: x :: s ++ d.out).Nodup
  have:=D.nd;rw [hs] at this;rw [y2,yE];refine ⟨fun hm => b ?_,this⟩;rw [hs];exact yp.1 hm
 ·show zLm succ root (y :: x :: s)
  have:=D.bk;rw [hs] at this;exact ⟨e,this⟩
 ·by_cases c : z = x
  ·subst c
   rw [zbO _ _ (by omega)] at hk
   by_cases c1 : k < d.next.getD z.toNat 0
   ·exact up w (D.nx z (by rw [hs]; exact ya) k w c1 hw)
   ·by_cases c2 : k = d.next.getD z.toNat 0 + i
    ·rw [c2,f] at hw
     injection hw with hw;exact .inl (by rw [← hw]; exact ya)
    ·have hd : ((succ.getD z.toNat []).drop (d.next.getD z.toNat 0))[k - d.next.getD z.toNat 0]? = some w:=by
      rw [yW]
      rwa [show d.next.getD z.toNat 0 + (k - d.next.getD z.toNat 0) = k by omega]
     have h5:=u _ w (by omega) hd;have rw':=zzt hr (⟨rx.1,rx.2,yI hw⟩ : Eg succ z w);exact up w ((D.mem w rw'.1 rw'.2).1 h5)
  ·rcases yh.1 a with rfl | a
   ·have c0 : z.toNat ≠ x.toNat:=by omega
    rw [getD_set_ne _ _ (fun h => c0 h.symm),D.fr z ry.1 ry.2 b] at hk;omega
   ·have g : z ∈ d.stk:=by rw [hs]; exact a
    have v:=D.rng z (.inl g);rw [getD_set_ne _ _ (by omega)] at hk;exact up w (D.nx z g k w hk hw)
 ·have q : ¬ (z ∈ d.stk ∨ z ∈ d.out):=fun h => a (up z h)
  have t : z ≠ x:=fun h => q (.inl (by rw [hs,h]; exact ya))
  show (d.next.set x.toNat _).getD z.toNat 0 = 0
  rw [getD_set_ne _ _ (by omega)];exact D.fr z z0 m q
 ·obtain ⟨p,h5,h6⟩:=D.par l1 z l2 hl
  refine ⟨p,h5,h6.imp id fun h => ?_⟩;rw [hs] at h;exact yb _ h
 ·rcases dn z a with rfl | a
  ·obtain ⟨l,w⟩:=D.rch x (.inl (by rw [hs]; exact ya))
   exact ⟨_,.step w e⟩
  ·exact D.rch z a
omit hn in
theorem zyS {d : DF} (D : DS succ root d) {x : Int} {s : List Int} (hs : d.stk = x :: s) (h : zhz succ d x = none) : ∀ y,Eg succ x y → y ∈ d.stk ∨ y ∈ d.out:=by
 intro y e;obtain ⟨k,hk⟩:=yF.1 e.2.2
 by_cases c : k < d.next.getD x.toNat 0
 ·exact D.nx x (by rw [hs]; exact ya) k y c hk
 ·have ry:=zzt hr e
  refine (D.mem y ry.1 ry.2).1 (zwg h y (yI (i:=k - d.next.getD x.toNat 0) ?_));rw [yW]
  rwa [show d.next.getD x.toNat 0 + (k - d.next.getD x.toNat 0) = k by omega]
omit hn in
theorem zJZ {d : DF} (D : DS succ root d) {x z : Int} {s : List Int} (hs : d.stk = x :: z :: s) (h : zhz succ d x = none) (m : Nat) :
  DS succ root ⟨d.seen,d.next.set x.toNat m,d.out ++ [x],z :: s⟩:=by
 have hall:=zyS hr D hs h;have rx:=D.rng x (.inl (by rw [hs]; exact ya))
 have iff : ∀ w,(w ∈ z :: s ∨ w ∈ d.out ++ [x]) ↔ (w ∈ d.stk ∨ w ∈ d.out):=fun w => by
  rw [hs,yp,yi,yh (a:=w) (b:=x)];constructor
  ·rintro (h | h | h)
   ·exact .inl (.inr h)
   ·exact .inr h
   ·exact .inl (.inl h)
  ·rintro ((h | h) | h)
   ·exact .inr (.inr h)
   ·exact .inl h
   ·exact .inr (.inl h)
 have hnd:=D.nd;rw [hs,y2,yE] at hnd;have hxs : x ∉ z :: s:=fun hm => hnd.1 (List.mem_append_left _ hm);have hxo : x ∉ d.out:=fun hm => hnd.1 (List.mem_append_right _ hm);refine ⟨D.sl,by simp [D.nl],fun w hw => D.rng w ((iff w).1 hw),fun w w0 w1 => (D.mem w w0 w1).trans (iff w).symm,?_,?_,fun w hw y hy => ?_,fun w hw k y hk hy => ?_,fun w w0 w1 hw => ?_,fun l1 w l2 hl => ?_,fun w hw => D.rch w ((iff w).1 hw)⟩
 ·show (z :: s ++ (d.out ++ [x])).Nodup
  rw [← yG,yZ];refine ⟨hnd.2,by simp,fun a ha b hb => ?_⟩;rw [yi.1 hb];rintro rfl;exact hnd.1 ha
 ·have:=D.bk
  rw [hs] at this;exact this.2
 ·rw [iff]
  rcases yp.1 hw with hw | hw
  ·exact D.cl w hw y hy
  ·rw [yi.1 hw] at hy
   exact hall y hy
 ·rw [iff]
  have hne : w ≠ x:=fun h => hxs (h ▸ hw);have hw' : w ∈ d.stk:=by rw [hs]; exact yb _ hw
  have rw':=D.rng w (.inl hw');have hk' : k < (d.next.set x.toNat m).getD w.toNat 0:=hk;rw [getD_set_ne _ _ (by omega)] at hk';exact D.nx w hw' k y hk' hy
 ·have hw' : ¬ (w ∈ d.stk ∨ w ∈ d.out):=fun h => hw ((iff w).2 h)
  have hne : w ≠ x:=fun h => hw' (.inl (by rw [h,hs]; exact ya))
  show (d.next.set x.toNat m).getD w.toNat 0 = 0
  rw [getD_set_ne _ _ (by omega)];exact D.fr w w0 w1 hw'
 ·have hl : d.out ++ [x] = l1 ++ w :: l2:=hl
  have hbk:=D.bk;rw [hs] at hbk;rcases yO l2 with h2 | ⟨l2',q,h2⟩
  ·subst h2
   have:=yw hl rfl;injection this with this;subst this;exact ⟨z,hbk.1,.inr ya⟩
  ·subst h2
   have h3 : d.out ++ [x] = (l1 ++ w :: l2') ++ [q]:=(by rw [hl]; simp);have e1:=yP h3 rfl;have e2:=yw h3 rfl;injection e2 with e2;subst e2;obtain ⟨p,h5,h6⟩:=D.par l1 w l2' e1;refine ⟨p,h5,?_⟩;rw [hs] at h6;rcases h6 with h6 | h6
   ·exact .inl (by simp [h6])
   ·rcases yh.1 h6 with rfl | h6
    ·exact .inl (by simp)
    ·exact .inr h6
structure Left (succ : List (List Int)) (root : Int) (o : List Int) : Prop where
 nd : o.Nodup
 last : ∃ l,o = l ++ [root]
 rng : ∀ x ∈ o,0 ≤ x ∧ x < (succ.length : Int)
 cl : ∀ x ∈ o,∀ y,Eg succ x y → y ∈ o
 par : ∀ l1 x l2,o = l1 ++ x :: l2 → x ≠ root → ∃ p,Eg succ p x ∧ p ∈ l2
 rch : ∀ x ∈ o,∃ l,Way (Eg succ) root x l
omit hn in
theorem zJb {d : DF} (D : DS succ root d) {x : Int} (hs : d.stk = [x]) (h : zhz succ d x = none) : Left succ root (d.out ++ [x]):=by
 have hall:=zyS hr D hs h;have hbk:=D.bk;rw [hs] at hbk;have hxr : x = root:=hbk
 have iff : ∀ w,(w ∈ d.out ++ [x]) ↔ (w ∈ d.stk ∨ w ∈ d.out):=fun w => by
  rw [hs,yp];exact or_comm
 have hnd:=D.nd;rw [hs,yH,yE] at hnd;refine ⟨?_,⟨d.out,by rw [hxr]⟩,fun w hw => D.rng w ((iff w).1 hw),fun w hw y hy => ?_,fun l1 w l2 hl hw => ?_,fun w hw => D.rch w ((iff w).1 hw)⟩
 ·rw [yZ]
  refine ⟨hnd.2,by simp,fun a ha b hb => ?_⟩;rw [yi.1 hb];rintro rfl;exact hnd.1 ha
 ·rw [iff]
  rcases yp.1 hw with hw | hw
  ·exact D.cl w hw y hy
  ·rw [yi.1 hw] at hy
   exact hall y hy
 ·rcases yO l2 with h2 | ⟨l2',q,h2⟩
  ·subst h2
   have:=yw hl rfl;injection this with this;exact absurd (this.symm.trans hxr) hw
  ·subst h2
   have h3 : d.out ++ [x] = (l1 ++ w :: l2') ++ [q]:=(by rw [hl]; simp);have e1:=yP h3 rfl;have e2:=yw h3 rfl;injection e2 with e2;subst e2;obtain ⟨p,h5,h6⟩:=D.par l1 w l2' e1;refine ⟨p,h5,?_⟩;rw [hs] at h6;rcases h6 with h6 | h6
   ·simp [h6]
   ·rw [yi.1 h6]; simp
theorem zGE : ∀ (k : Nat) (d : DF),DS succ root d → 2 * (64 - (d.stk.length + d.out.length)) + d.stk.length < k → ∃ o,dfs succ k d = some o ∧ Left succ root o:=by
 intro k
 induction k with
 | zero => intro d _ h; omega
 | succ k ih =>
   intro d D hk;rw [dfs]
   cases hs : d.stk with
   | nil =>
     have:=D.bk;rw [hs] at this;exact this.elim
   | cons x s =>
     simp only
     have hle : d.stk.length + d.out.length ≤ 64:=by
      have:=zjZ D.nd fun x c => D.rng x (yp.1 c);rw [yt] at this;omega
     cases e : zhz succ d x with
     | some yj =>
       obtain ⟨y,j⟩:=yj;simp only;obtain ⟨b,f,h2,h3⟩:=zH8 hn hr D hs e
       have a : (y :: x :: s).length + d.out.length ≤ 64:=by
        have:=zjZ b.nd fun x c => b.rng x (yp.1 c);rw [yt] at this;exact yab this hn
       rw [hs] at hk;simp only [yr] at hk a;exact ih _ b (by simp only [yr]; omega)
     | none =>
       simp only
       cases s with
       | nil => exact ⟨_,rfl,zJb hr D hs e⟩
       | cons z s =>
         have b:=zJZ hr D hs e (zAi succ x);rw [hs] at hk hle;simp only [yr] at hk hle;exact ih _ b (by simp only [yt,yr,yJ]; omega)
theorem zBN (d : 0 ≤ root ∧ root < (succ.length : Int)) : ∃ o,dfs succ 200 (zvp root) = some o ∧ Left succ root o:=by
 refine zGE hn hr 200 _ ⟨by simp [zvp,zsE],rfl,fun x a => ?_,fun x f e => ?_,by simp [zvp],rfl,by simp [zvp],fun x a j y b => ?_,fun x _ _ _ => ?_,fun l1 x l2 hl => ?_,fun x a => ?_⟩ (by simp [zvp])
 ·simp only [zvp,yi,yN,or_false] at a
  rw [a]; exact d
 ·simp only [zvp,yi,yN,or_false]
  by_cases c : x = root
  ·subst c
   rw [zbO _ _ (by simp [zsE]; omega)];simp
  ·rw [getD_set_ne _ _ (by omega)]
   simp only [c,iff_false];unfold zsE;rw [yc,ym];split <;> simp
 ·exfalso
  have : zqg.getD x.toNat 0 = 0:=by unfold zqg; rw [yc,ym]; split <;> rfl
  have b : j < zqg.getD x.toNat 0:=b;omega
 ·show zqg.getD x.toNat 0 = 0
  unfold zqg;rw [yc,ym];split <;> rfl
 ·have hl : ([] : List Int) = l1 ++ x :: l2:=hl
  simp at hl
 ·simp only [zvp,yi,yN,or_false] at a
  rw [a];exact ⟨_,.root⟩
end
theorem zEH {x : Int} (b : 0 ≤ x) : ∀ (l : List Int) (i : Nat) (a : List Int),(∀ y ∈ l,0 ≤ y) → x ∉ l → tr (zme i l a) x = tr a x
 | [],_,_,_,_ => rfl
 | y :: l,i,a,hl,hn => by
   rw [zme,zEH b l _ _ (fun z c => hl z (yb _ c)) (fun h => hn (yb _ h))];unfold tr;have:=hl y ya;rw [getD_set_ne _ _ (fun h => hn (by rw [show x = y by omega]; exact ya))]
theorem zD9 : ∀ (l : List Int) (i : Nat) (a : List Int),(∀ y ∈ l,0 ≤ y ∧ y < (a.length : Int)) → l.Nodup → ∀ (j : Nat) (x : Int),l[j]? = some x → tr (zme i l a) x = ((i + j : Nat) : Int)
 | [],_,_,_,_,j,x,h => by simp at h
 | y :: l,i,a,hl,hd,j,x,h => by
   have e:=hl y ya;have c:=yE.1 hd;have b : ∀ z ∈ l,0 ≤ z ∧ z < ((a.set y.toNat (i : Int)).length : Int):=fun z d => by rw [y4]; exact hl z (yb _ d)
   rw [zme]
   cases j with
   | zero =>
     simp only [yB,Option.some.injEq] at h;subst h;rw [zEH e.1 l _ _ (fun z d => (b z d).1) c.1];unfold tr;rw [zbO _ _ (by omega),yK]
   | succ j =>
     rw [zD9 l (i + 1) _ b c.2 j x (by simpa using h)]
     congr 1
     omega
theorem zu0 (i : Int) (out : List (List Int)) (x : Int) (X : Nat) (b : 0 ≤ x) (a : X < out.length) : (zwV i out x).getD X [] = if x = X then out.getD X [] ++ [i] else out.getD X []:=by
 unfold zwV
 by_cases c : x = (X : Int)
 ·subst c
  rw [if_pos rfl,ye,zbO _ _ a]
 ·rw [if_neg c,getD_set_ne _ _ (by omega)]
theorem zri (i : Int) (X : Nat) (y : Int) : ∀ (l : List Int) (out : List (List Int)),(∀ x ∈ l,0 ≤ x) → X < out.length → (y ∈ (l.foldl (zwV i) out).getD X [] ↔ y ∈ out.getD X [] ∨ (y = i ∧ (X : Int) ∈ l))
 | [],out,_,_ => by simp
 | x :: l,out,hl,hX => by
   rw [y5,zri i X y l _ (fun z d => hl z (yb _ d)) (by rw [zhf]; exact hX),zu0 i out x X (hl x ya) hX]
   by_cases c : x = (X : Int)
   ·rw [if_pos c,yp,yi,yh]
    constructor
    ·rintro ((h | h) | h)
     ·exact .inl h
     ·exact .inr ⟨h,.inl c.symm⟩
     ·exact .inr ⟨h.1,.inr h.2⟩
    ·rintro (h | h)
     ·exact .inl (.inl h)
     ·exact .inl (.inr h.1)
   ·rw [if_neg c,yh]
    constructor
    ·rintro (h | h)
     ·exact .inl h
     ·exact .inr ⟨h.1,.inr h.2⟩
    ·rintro (h | ⟨b,a | a⟩)
     ·exact .inl h
     ·exact absurd a.symm c
     ·exact .inr ⟨b,a⟩
theorem zoI (X : Nat) (y : Int) : ∀ (l : List (List Int)) (i : Nat) (out : List (List Int)),(∀ r ∈ l,∀ x ∈ r,0 ≤ x) → X < out.length → (y ∈ (zbH i l out).getD X [] ↔ y ∈ out.getD X [] ∨ ∃ j r,l[j]? = some r ∧ y = ((i + j : Nat) : Int) ∧ (X : Int) ∈ r)
 | [],i,out,_,_ => by simp [zbH]
 | r :: l,i,out,hl,hX => by
   rw [zbH,zoI X y l (i + 1) _ (fun z d => hl z (yb _ d)) (by rw [zhA]; exact hX),zri (i : Int) X y r out (hl r ya) hX];constructor
   ·rintro ((h | h) | ⟨j,q,a,c,b⟩)
    ·exact .inl h
    ·exact .inr ⟨0,r,rfl,by rw [h.1,yK],h.2⟩
    ·exact .inr ⟨j + 1,q,by simpa using a,by rw [c]; congr 1; omega,b⟩
   ·rintro (h | ⟨j,q,a,c,b⟩)
    ·exact .inl (.inl h)
    ·cases j with
     | zero =>
       simp only [yB,Option.some.injEq] at a;subst a;exact .inl (.inr ⟨by rw [c,yK],b⟩)
     | succ j => exact .inr ⟨j,q,by simpa using a,by rw [c]; congr 1; omega,b⟩
theorem zrn {n : Int} : ∀ {l : List Int} {last : Int},zag n last l = true → ∀ x ∈ l,last < x ∧ x < n
 | [],_,_ => by simp
 | y :: r,last,h => by
   simp only [zag] at h;split at h
   ·cases h
   ·rename_i c
    intro x a;rcases yh.1 a with rfl | a
    ·omega
    ·have:=zrn h x a
     omega
theorem zfA {succ : List (List Int)} (h : zbY succ = true) : 1 ≤ succ.length ∧ succ.length ≤ 64 ∧ ∀ l ∈ succ,∀ y ∈ l,0 ≤ y ∧ y < (succ.length : Int):=by
 unfold zbY at h;simp only [y0,yR,decide_eq_false_iff_not,yL] at h;refine ⟨by omega,by omega,fun l b y a => ?_⟩;have c : rising l succ.length = true:=by simpa using h.2.2 l b
 have:=zrn c y a;omega
theorem zoC {succ : List (List Int)} (e : ∀ l ∈ succ,∀ y ∈ l,0 ≤ y ∧ y < (succ.length : Int)) {x : Int} (k : 0 ≤ x ∧ x < (succ.length : Int)) (p : Int) : p ∈ (z7 succ).getD x.toNat [] ↔ Eg succ p x:=by
 unfold z7;rw [zoI x.toNat p succ 0 _ (fun l g y d => (e l g y d).1) (by simp; omega)]
 have e0 : (yu succ.length ([] : List Int)).getD x.toNat [] = []:=by
  rw [yc,ym];split <;> rfl
 rw [e0];have ex : ((x.toNat : Nat) : Int) = x:=by omega
 rw [ex];constructor
 ·rintro (h | ⟨j,r,c,f,b⟩)
  ·simp at h
  ·have i:=(ys.1 c).1
   refine ⟨by omega,by omega,?_⟩;rw [show p.toNat = j by omega,yc,c];exact b
 ·rintro ⟨c,f,b⟩
  have a : p.toNat < succ.length:=by omega
  rw [yc,yf a] at b;exact .inr ⟨p.toNat,succ[p.toNat],yf a,by omega,b⟩
structure TreeOf (succ : List (List Int)) (root : Int) (O : Int → Prop) (pos : Int → Nat) (t : List Int) : Prop where
 len : t.length = succ.length
 ord : Ord (Eg succ) root O pos
 rng : ∀ a,O a → 0 ≤ a ∧ a < (succ.length : Int)
 inv : Inv (Eg succ) root O pos (tf t)
 st : ∀ x,O x → x ≠ root → St (Eg succ) root (tf t) x
 low : ∀ a,O a → pos a < succ.length
 rch : ∀ a,O a ↔ ∃ l,Way (Eg succ) root a l
theorem zGq {n root : Nat} (h : root < n) (x : Int) : tf (zmP n root) x = if x = root then (root : Int) else -2:=by
 unfold tf zmP
 by_cases c : 0 ≤ x
 ·rw [if_pos c]
  have e : tr ((yu n (-2 : Int)).set ((root : Nat) : Int).toNat root) x = if x = root then (root : Int) else tr (yu n (-2 : Int)) x:=zzz _ ⟨by omega,by simp; omega⟩ c
  rw [ye] at e;rw [e];split
  ·rfl
  ·unfold tr
   rw [yc,ym];split <;> rfl
 ·rw [if_neg c,if_neg (by omega)]
theorem zHP {succ : List (List Int)} (hm : zbY succ = true) {root : Nat} (h0 : root < succ.length) :
  ∃ o o0 tail t O pos,dfs succ 200 (zvp root) = some o ∧ o.reverse = o0 :: tail ∧ (∀ x ∈ o,0 ≤ x ∧ x < (succ.length : Int)) ∧ o.length ≤ 64 ∧
    ziH (z7 succ) (at0 succ.length o.reverse) 200 tail 5000 (zmP succ.length root) = some t ∧ TreeOf succ root O pos t ∧ (∀ x,O x ↔ x ∈ o):=by
 obtain ⟨n1,n64,hr⟩:=zfA hm;obtain ⟨o,ho,L⟩:=zBN (root:=(root : Int)) n64 hr (by omega);obtain ⟨C,u⟩:=L.last;have q : o.reverse = (root : Int) :: C.reverse:=by rw [u]; simp
 have X : o.reverse.Nodup:=List.pairwise_reverse.2 (L.nd.imp fun h => h.symm);have hlen : o.length ≤ 64:=yab (zjZ L.nd L.rng) n64;have aG : o.reverse.length ≤ succ.length:=by rw [yU]; exact zjZ L.nd L.rng
 obtain ⟨at',s⟩ : ∃ a,a = at0 succ.length o.reverse:=⟨_,rfl⟩;have aF : at'.length = succ.length:=by rw [s,at0,zj5]; simp
 have B : ∀ (j : Nat) (x : Int),o.reverse[j]? = some x → tr at' x = (j : Int):=fun j x h => by
  have:=zD9 o.reverse 0 (yu succ.length 0) (fun y U => by rw [List.length_replicate]; exact L.rng y (yA.1 U)) X j x h;rw [s,at0,this,yQ]
 obtain ⟨pos,W⟩ : ∃ p : Int → Nat,p = fun a => (tr at' a).toNat:=⟨_,rfl⟩;have z : ∀ (j : Nat) (x : Int),o.reverse[j]? = some x → pos x = j:=fun j x h => by rw [W]; simp only; rw [B j x h]; omega
 have hex : ∀ x,x ∈ o → ∃ j : Nat,o.reverse[j]? = some x ∧ j < o.reverse.length:=fun x g => by
  obtain ⟨j,G⟩:=yF.1 (yA.2 g);exact ⟨j,G,(ys.1 G).1⟩
 have N : o.reverse[0]? = some (root : Int):=by rw [q]; rfl
 have E : (root : Int) ∈ o:=by rw [u]; simp
 have aE : ∀ a,a ∈ o → tr at' a = (pos a : Int):=fun a r => by
  obtain ⟨j,f,_⟩:=hex a r;rw [B j a f,z j a f]
 have H : Ord (Eg succ) (root : Int) (· ∈ o) pos:=by
  refine ⟨E,fun a b r hb h => ?_,fun a _ => ?_,fun x g aC => ?_,fun p x v e => L.cl p v x e⟩
  ·obtain ⟨i,f,_⟩:=hex a r
   obtain ⟨j,k,_⟩:=hex b hb;rw [z i a f,z j b k] at h;subst h;rw [f] at k;injection k
  ·rw [z 0 _ N]; omega
  ·obtain ⟨l1,l2,hl⟩:=List.append_of_mem g
   obtain ⟨p,e,V⟩:=L.par l1 x l2 hl aC;have S : o.reverse = l2.reverse ++ (x :: l1.reverse):=by rw [hl]; simp
   have aB : o.reverse[l2.length]? = some x:=by
    rw [S,List.getElem?_append_right (by simp)];simp
   obtain ⟨j,G⟩:=yF.1 (yA.2 V);have D:=(ys.1 G).1;rw [yU] at D;have v : o.reverse[j]? = some p:=(by rw [S,List.getElem?_append_left (by simpa using D)]; exact G);exact ⟨p,by rw [hl]; simp [V],e,by rw [z _ _ aB,z _ _ v]; exact D⟩
 have P : ∀ a,a ∈ o → 0 ≤ a ∧ a < (succ.length : Int):=L.rng
 have m : ∀ a,a ∈ o → pos a < succ.length:=fun a r => by
  obtain ⟨j,f,k⟩:=hex a r;rw [z j a f];omega
 have A:=zGq (n:=succ.length) h0
 have I : Inv (Eg succ) (root : Int) (· ∈ o) pos (tf (zmP succ.length root)):=by
  have Z : ∀ x : Int,x ≠ (root : Int) → ¬ tf (zmP succ.length root) x ≠ -2:=fun x g h => h (by rw [A,if_neg g]);refine ⟨fun x g => ?_,by rw [A,if_pos rfl],fun x g h => ?_,fun x f k => absurd k (Z x f),fun x d f k => absurd k (Z x f),fun x f k => absurd k (Z x f),fun x f k => absurd k (Z x f)⟩
  ·rw [A,if_neg]
   rintro rfl;exact g E
  ·have:=(P x g).1
   omega
 have Q : o.reverse.Pairwise (fun a b => pos a < pos b):=by
  rw [List.pairwise_iff_getElem];intro i j hi G aD;rw [z i _ (yf hi),z j _ (yf G)];exact aD
 rw [q] at Q
 have J : ∀ x ∈ C.reverse,x ∈ o ∧ x ≠ (root : Int):=fun x g => by
  have aA : x ∈ o:=by rw [u]; simp [yA.1 g]
  refine ⟨aA,?_⟩;rintro rfl;have:=X;rw [q,yE] at this;exact this.1 g
 have R : ∀ y,y ∈ o → y ≠ (root : Int) → y ∈ C.reverse:=fun y U hn => by
  rw [u] at U;simp only [yp,yi] at U;exact yA.2 (U.resolve_right hn)
 have Y : (C.reverse.map (wgt pos 64 (zmP succ.length root))).sum < 5000:=by
  have hle : ∀ l : List Int,(l.map (wgt pos 64 (zmP succ.length root))).sum ≤ 64 * l.length:=by
   intro l
   induction l with
   | nil => simp
   | cons x l ih =>
     simp only [yX,yY,yr]
     have : wgt pos 64 (zmP succ.length root) x ≤ 64:=by
      unfold wgt;rw [A]
      by_cases c : x = (root : Int)
      ·rw [if_pos c,if_neg (by omega)]
       have:=m _ E;omega
      ·rw [if_neg c,if_pos rfl]
       exact yT _
     omega
  have f:=hle C.reverse
  have k : C.reverse.length ≤ 64:=by
   rw [u] at hlen;simp at hlen ⊢;omega
  omega
 obtain ⟨t,f,k,h3,h4⟩:=zGk H P aF aE (fun x g p => zoC hr (P x g) p) (fun x g p v => by
  have:=(zoC hr (P x g) p).1 v
  exact ⟨this.1,this.2.1⟩) (K:=200) (M:=64) (fun a r => by have:=m a r; omega) (fun a r => by have:=m a r; omega) C.reverse J (yk.1 Q).2 R 5000 (zmP succ.length root) (by simp [zmP]) I Y
 refine ⟨o,root,C.reverse,t,(· ∈ o),pos,ho,q,P,hlen,by rw [← s]; exact f,⟨k,H,P,h3,h4,m,fun a => ⟨fun r => L.rch a r,fun ⟨l,w⟩ => (zzy H w).1⟩⟩,fun _ => Iff.rfl⟩
end AC
namespace AC
open Go Go.A Go.A.Lex
def apT (t : Nat) : Nat → List (List Int) → List (List C)
 | _,[] => []
 | q,l :: r => [.ap t q (l.map ri)] :: apT t (q + 1) r
theorem zmy (t : Nat) : ∀ (out : List (List Int)) (q : Nat),(apT t q out).length = out.length
 | [],_ => rfl
 | l :: r,q => by simp [apT,zmy t r (q + 1)]
theorem zxC (t : Nat) : ∀ (out : List (List Int)) (q k : Nat) (h : k < out.length),(apT t q out)[k]? = some [.ap t (q + k) (out[k].map ri)]
 | [],_,_,h => by simp at h
 | l :: r,q,0,_ => by simp [apT]
 | l :: r,q,k + 1,h => by
   simp only [apT,List.getElem?_cons_succ,List.getElem_cons_succ];rw [zxC t r (q + 1) k (by simpa using h),y9,yac 1 k]
theorem zC3 (t : Nat) : ∀ (out : List (List Int)) (q k : Nat) (l : List Int),(apT t q out).set k [.ap t (q + k) (l.map ri)] = apT t q (out.set k l)
 | [],_,_,_ => rfl
 | x :: r,q,0,l => by simp [apT]
 | x :: r,q,k + 1,l => by
   simp only [apT,List.set_cons_succ];rw [← zC3 t r (q + 1) k l,y9,yac 1 k]
theorem zCz (t : Nat) : ∀ (out : List (List Int)) (q : Nat),zbo (apT t q out) = some (out.map rl)
 | [],_ => rfl
 | x :: r,q => by simp [apT,zbo,zgp,zAj,zhN,zCz t r (q + 1),rl]
theorem zHC (t n : Nat) : (yae n).map (nest t [.f (.sl [])] 0) = apT t 0 (yu n []):=by
 apply yy;intro k
 by_cases a : k < n
 ·rw [zxC _ _ _ _ (by simpa using a)]
  simp [a,nest]
 ·rw [yl (by simp; omega),yl (by rw [zmy]; simp; omega)]
def zjh (i : Int) : Nat → List (List Int) → List Int
 | _,[] => []
 | k,l :: r => if i ∈ l then (k : Int) :: zjh i (k + 1) r else zjh i (k + 1) r
def zi6 (l : List Int) (k : Nat) : Int:=if k = 0 then -1 else l.getD (k - 1) (-1)
section
variable (succ : List (List Int)) (hn1 : 1 ≤ succ.length) (hn : succ.length ≤ 64) (hl : ∀ l ∈ succ,l.length ≤ 4294967296)
abbrev sM1 : zd:=[.cells 0 2 [[.f (.sl []),.f (.sl [])]]]
include hn hl
theorem zFc (i : Nat) (m : i < succ.length) : ∀ (d k : Nat) (a2 a6 a7 a8 a9 o g l h p n : V),succ[i].length - k = d → k ≤ succ[i].length → -1 ≤ zi6 succ[i] k →
  exec T zcP ⟨[vLs succ,.one (.ptr 0 0 0 0),a2,vI succ.length,vI i,vI k,a6,a7,a8,a9,o,g,l,h,p,n],sM1,0,0⟩ =
   some (if zag succ.length (zi6 succ[i] k) (succ[i].drop k) = true then (.exit 2,⟨[vLs succ,.one (.ptr 0 0 0 0),vU,vI succ.length,vI i,vU,vU,vU,vU,vU,vU,vU,vU,vU,vU,vU],sM1,0,0⟩)
    else (.ret,⟨[vU,.one (.ptr 0 0 0 0),vI 5,vU,vU,vU,vU,vU,vU,vU,vU,vU,vU,vU,vU,vU],sM1,0,0⟩)):=by
 intro d
 induction d with
 | zero =>
   intro k a2 a6 a7 a8 a9 o g l h p n B A hm;have c : k = succ[i].length:=(by omega);subst c;rw [xl zcP rfl,zfm];simp -implicitDefEqProofs only [go_sem,zt m,rl,yv,yd,yx,zag,yg,ye]
 | succ d ih =>
   intro k a2 a6 a7 a8 a9 o g l h p n B A hm;have c : k < succ[i].length:=(by omega);have s:=hl _ (yz m);have hd : succ[i].drop k = succ[i][k] :: succ[i].drop (k + 1):=yn c
   have a : zi6 succ[i] (k + 1) = succ[i][k]:=by
    unfold zi6;rw [if_neg (by omega),yV,yc,yf c];rfl
   have q:=zt (r:=ri) c;obtain ⟨x,w⟩ : ∃ x,x = succ[i][k]:=⟨_,rfl⟩;rw [← w] at q a;rw [xl zcP rfl,zfm,hd,zag,← w]
   by_cases c1 : x < 0
   ·have e : x ≤ zi6 succ[i] k ∨ (succ.length : Int) ≤ x:=.inl (by omega)
    rw [if_pos e];simp -implicitDefEqProofs only [go_sem,zt m,rl,ilt c,q,ri,yd,eq_true c1,yg,ye]
   by_cases c2 : (succ.length : Int) ≤ x
   ·have e : x ≤ zi6 succ[i] k ∨ (succ.length : Int) ≤ x:=.inr c2
    have b : x ≥ (succ.length : Int):=c2;rw [if_pos e];simp -implicitDefEqProofs only [go_sem,zt m,rl,ilt c,q,ri,yd,c1,eq_true b,yg,ye]
   have b : ¬ x ≥ (succ.length : Int):=c2
   by_cases z : k = 0
   ·subst z
    have e : ¬ (x ≤ zi6 succ[i] 0 ∨ (succ.length : Int) ≤ x):=by
     have : zi6 succ[i] 0 = -1:=rfl;omega
    have:=ih 1 vU vU vU vU vU vU vU vU vU vU vU (by omega) (by omega) (by rw [show (1 : Nat) = 0 + 1 from rfl,a]; omega);rw [show (1 : Nat) = 0 + 1 from rfl,a] at this;have w0:=za c s;have z0 : ¬ ((0 : Int) > 0):=(by omega);have t : (0 : Int) < (succ[i].length : Int):=(by omega);simp -implicitDefEqProofs only [go_sem] at this;rw [if_neg e];simp -implicitDefEqProofs only [go_sem,yq,zt m,rl,eq_true t,q,ri,yd,c1,b,z0,yg,ye,w0];exact this
   ·obtain ⟨j,rfl⟩ : ∃ j,k = j + 1:=⟨k - 1,by omega⟩
    have v : j < succ[i].length:=(by omega);have y:=zt (r:=ri) v
    have f : zi6 succ[i] (j + 1) = succ[i][j]:=by
     unfold zi6;rw [if_neg (by omega),yV,yc,yf v];rfl
    have u : Go.IntKind.i64.wrap (((j + 1 : Nat) : Int) - 1) = (j : Int):=by
     rw [show ((j + 1 : Nat) : Int) - 1 = (j : Int) by omega,wrap_i64] <;> omega
    have z0 : ((j + 1 : Nat) : Int) > 0:=by omega
    by_cases c3 : x ≤ succ[i][j]
    ·have e : x ≤ zi6 succ[i] (j + 1) ∨ (succ.length : Int) ≤ x:=.inl (by rw [f]; exact c3)
     rw [if_pos e];simp -implicitDefEqProofs only [go_sem,zt m,rl,ilt c,q,y,ri,yd,c1,b,eq_true z0,u,eq_true c3,yg,ye]
    ·have e : ¬ (x ≤ zi6 succ[i] (j + 1) ∨ (succ.length : Int) ≤ x):=by rw [f]; omega
     have:=ih (j + 1 + 1) vU vU vU vU vU vU vU vU vU vU vU (by omega) (by omega) (by rw [a]; omega);rw [a] at this;simp -implicitDefEqProofs only [go_sem] at this;rw [if_neg e];simp -implicitDefEqProofs only [go_sem,zt m,rl,ilt c,q,y,ri,yd,c1,b,eq_true z0,u,c3,yg,ye,za c s,this]
theorem zE1 : ∀ (d k : Nat) (a2 a5 a6 a7 a8 a9 g a e b h f : V),succ.length - k = d → k ≤ succ.length →
  exec T zcG ⟨[vLs succ,.one (.ptr 0 0 0 0),a2,vI succ.length,vI k,a5,a6,a7,a8,a9,g,a,e,b,h,f],sM1,0,0⟩ =
   some (if (succ.drop k).all (fun l => rising l succ.length) = true then (.exit 0,⟨[vLs succ,.one (.ptr 0 0 0 0),vU,vI succ.length,vU,vU,vU,vU,vU,vU,vU,vU,vU,vU,vU,vU],sM1,0,0⟩)
    else (.ret,⟨[vU,.one (.ptr 0 0 0 0),vI 5,vU,vU,vU,vU,vU,vU,vU,vU,vU,vU,vU,vU,vU],sM1,0,0⟩)):=by
 intro d
 induction d with
 | zero =>
   intro k a2 a5 a6 a7 a8 a9 g a e b h f o m;have i : k = succ.length:=(by omega);subst i;rw [xl zcG rfl,ze3];simp -implicitDefEqProofs only [go_sem,yv,yx,yaf]
 | succ d ih =>
   intro k a2 a5 a6 a7 a8 a9 g a e b h f o m;have i : k < succ.length:=(by omega);have hd : succ.drop k = succ[k] :: succ.drop (k + 1):=yn i;have j:=fun a2 a6 a7 a8 a9 g a e b h f => zFc succ hn hl k i succ[k].length 0 a2 a6 a7 a8 a9 g a e b h f (by omega) (by omega) (by simp [zi6]);have n : zi6 succ[k] 0 = -1:=rfl;simp only [yq,yC,n] at j;have:=ih (k + 1) vU vU vU vU vU vU vU vU vU vU vU vU (by omega) (by omega);rw [xl zcG rfl,ze3,hd,y1,rising];simp -implicitDefEqProofs only [go_sem] at this;cases c : zag succ.length (-1) succ[k]
   ·simp -implicitDefEqProofs only [go_sem,c] at j
    simp -implicitDefEqProofs only [go_sem,ilt i,j]
   ·simp -implicitDefEqProofs only [go_sem,c] at j
    simp -implicitDefEqProofs only [go_sem,ilt i,j,za i (show succ.length ≤ 4294967296 by omega),this]
abbrev sM4 (out : List (List Int)) : zd:=[.cells 0 2 [[.f (.sl []),.f (.sl [])]],.tok 1 (out.map yaa),.cells 0 1 (apT 1 0 out),.cells 0 2 [[.f (.sl (succ.map rl)),.own 2 0 0 succ.length]]]
theorem zFk (i : Nat) (B : i < succ.length) : ∀ (d k : Nat) (out : List (List Int)) (r : List Int) (a2 a4 a5 a9 h b f e l g : V),succ.length - k = d → k ≤ succ.length → out.length = succ.length → out[i]? = some r → r.length ≤ k →
  exec T zdc ⟨[vLs succ,.one (.ptr 0 0 0 0),a2,vI succ.length,a4,a5,.one (.ptr 3 0 0 0),vI i,vI k,a9,h,b,f,e,l,g],sM4 succ out,0,0⟩ =
   some (.exit 6,⟨[vLs succ,.one (.ptr 0 0 0 0),vU,vI succ.length,vU,vU,.one (.ptr 3 0 0 0),vI i,vU,vU,vU,vU,vU,vU,vU,vU],sM4 succ (out.set i (r ++ zjh i k (succ.drop k))),0,0⟩):=by
 intro d
 induction d with
 | zero =>
   intro k out r a2 a4 a5 a9 h b f e l g A y u o x;have a : k = succ.length:=(by omega);subst a
   have s : out.set i r = out:=by
    apply yy;intro j
    by_cases c : i = j
    ·subst c; rw [yD (by omega),o]
    ·rw [yS c]
   rw [xl zdc rfl,zfn];simp -implicitDefEqProofs only [go_sem,sM4,yv,yx,zjh,y6,s]
 | succ d ih =>
   intro k out r a2 a4 a5 a9 h b f e l g A y u o x;have a : k < succ.length:=(by omega);have hd : succ.drop k = succ[k] :: succ.drop (k + 1):=yn a;have q:=zno succ[k] (i : Int) (hl _ (yz a));rw [xl zdc rfl,zfn,hd,zjh]
   by_cases c : (i : Int) ∈ succ[k]
   ·have n : i < out.length:=by omega
    have w : out[i] = r:=by
     rw [yf n] at o;injection o
    have t:=zxC 1 out 0 i n;have s:=fun m => zC3 1 out 0 i m;simp only [yQ] at t s;rw [w] at t;have z : (out.map yaa)[i]? = some r.length:=(by simp [o]);have p : r.length + 1 ≤ LIM:=(by unfold LIM; omega);have v : ((i : Int) < (succ.length : Int)) = True:=(by simp; omega);have:=ih (k + 1) (out.set i (r ++ [(k : Int)])) (r ++ [(k : Int)]) vU vU vU vU vU vU vU vU vU vU (by omega) (by omega) (by simpa using u) (by rw [yD n]) (by simp; omega);have e1 : yah ri r ++ [[Fz.lit (Value.int .i64 (k : Int))]] = yah ri (r ++ [(k : Int)]):=(by simp [ri]);rw [List.set_set,yG,yH] at this;simp -implicitDefEqProofs only [go_sem,decide_eq_true c] at q;simp -implicitDefEqProofs only [go_sem,sM4,yag,yt,yr,yJ,yQ] at this;simp -implicitDefEqProofs only [go_sem,sM4,ilt a,zt a,rl,q,c,t,z,p,v,e1,s,yg,ye,yd,za a (show succ.length ≤ 4294967296 by omega),yag,zmy,this]
   ·have:=ih (k + 1) out r vU vU vU vU vU vU vU vU vU vU (by omega) (by omega) u o (by omega)
    simp -implicitDefEqProofs only [go_sem,decide_eq_false c] at q;simp -implicitDefEqProofs only [go_sem,sM4] at this;simp -implicitDefEqProofs only [go_sem,sM4,ilt a,zt a,rl,q,c,yd,za a (show succ.length ≤ 4294967296 by omega),this]
def zAo (k : Nat) : List (List Int):=(yae succ.length).map fun i => if i < k then zjh (i : Int) 0 succ else []
omit hn hl in
theorem zgW (k : Nat) : (zAo succ k).length = succ.length:=by simp [zAo]
omit hn hl in
theorem zoj (k i : Nat) (h : i < succ.length) : (zAo succ k)[i]? = some (if i < k then zjh (i : Int) 0 succ else []):=by simp [zAo,h]
omit hn hl in
theorem zwo : zAo succ 0 = yu succ.length []:=by
 apply yy;intro j
 by_cases c : j < succ.length
 ·rw [zoj succ 0 j c]; simp [c]
 ·rw [yl (by rw [zgW]; omega),yl (by simp; omega)]
omit hn hl in
theorem zFA (k : Nat) (h : k < succ.length) : (zAo succ k).set k (zjh (k : Int) 0 succ) = zAo succ (k + 1):=by
 apply yy;intro j
 by_cases c : j < succ.length
 ·rw [zoj succ (k + 1) j c]
  by_cases e : k = j
  ·subst e
   rw [yD (by rw [zgW]; exact h),if_pos (by omega)]
  ·rw [yS e,zoj succ k j c]
   by_cases f : j < k
   ·rw [if_pos f,if_pos (by omega)]
   ·rw [if_neg f,if_neg (by omega)]
 ·rw [yl (by rw [y4,zgW]; omega),yl (by rw [zgW]; omega)]
theorem zFV : ∀ (d k : Nat) (a2 a4 a5 a8 a9 e c g f b a : V),succ.length - k = d → k ≤ succ.length →
  exec T zdh ⟨[vLs succ,.one (.ptr 0 0 0 0),a2,vI succ.length,a4,a5,.one (.ptr 3 0 0 0),vI k,a8,a9,e,c,g,f,b,a],sM4 succ (zAo succ k),0,0⟩ =
   some (.exit 4,⟨[vU,.one (.ptr 0 0 0 0),vU,vU,vU,vU,.one (.ptr 3 0 0 0),vU,vU,vU,vU,vU,vU,vU,vU,vU],sM4 succ (zAo succ succ.length),0,0⟩):=by
 intro d
 induction d with
 | zero =>
   intro k a2 a4 a5 a8 a9 e c g f b a j l;have h : k = succ.length:=(by omega);subst h;rw [xl zdh rfl,zfw];simp -implicitDefEqProofs only [go_sem,sM4,yv]
 | succ d ih =>
   intro k a2 a4 a5 a8 a9 e c g f b a j l;have h : k < succ.length:=(by omega);have i:=fun a2 a4 a5 a9 e c g f b a => zFk succ hn hl k h succ.length 0 (zAo succ k) [] a2 a4 a5 a9 e c g f b a (by omega) (by omega) (zgW succ k) (by rw [zoj succ k k h,if_neg (by omega)]) (by simp);simp only [yq,yC,y7,zFA succ k h] at i;have:=ih (k + 1) vU vU vU vU vU vU vU vU vU vU vU (by omega) (by omega);rw [xl zdh rfl,zfw];simp -implicitDefEqProofs only [go_sem,sM4] at i this;simp -implicitDefEqProofs only [go_sem,sM4,ilt h,i,za h (show succ.length ≤ 4294967296 by omega),this]
end
theorem zqZ : ∀ {a b : List Int},a.Pairwise (· < ·) → b.Pairwise (· < ·) → (∀ x,x ∈ a ↔ x ∈ b) → a = b
 | [],[],_,_,_ => rfl
 | [],y :: b,_,_,h => by have:=(h y).2 ya; simp at this
 | x :: a,[],_,_,h => by have:=(h x).1 ya; simp at this
 | x :: a,y :: b,ha,hb,h => by
   rw [yk] at ha hb
   have d : x = y:=by
    have f:=(h x).1 ya;have g:=(h y).2 ya;rcases yh.1 f with e | e
    ·exact e
    ·rcases yh.1 g with e2 | e2
     ·exact e2.symm
     ·have:=hb.1 x e
      have:=ha.1 y e2;omega
   subst d;rw [zqZ ha.2 hb.2 fun z => ?_];constructor
   ·intro c
    rcases yh.1 ((h z).1 (yb _ c)) with e | e
    ·subst e
     have:=ha.1 z c;omega
    ·exact e
   ·intro c
    rcases yh.1 ((h z).2 (yb _ c)) with e | e
    ·subst e
     have:=hb.1 z c;omega
    ·exact e
theorem zpw (i y : Int) : ∀ (r : List (List Int)) (k : Nat),y ∈ zjh i k r ↔ ∃ j l,r[j]? = some l ∧ y = ((k + j : Nat) : Int) ∧ i ∈ l
 | [],k => by simp [zjh]
 | l :: r,k => by
   rw [zjh];have f:=zpw i y r (k + 1);constructor
   ·intro h
    split at h
    ·rename_i c
     rcases yh.1 h with e | h
     ·exact ⟨0,l,rfl,by rw [e,yK],c⟩
     ·obtain ⟨j,q,a,d,b⟩:=f.1 h
      exact ⟨j + 1,q,by simpa using a,by rw [d]; congr 1; omega,b⟩
    ·obtain ⟨j,q,a,d,b⟩:=f.1 h
     exact ⟨j + 1,q,by simpa using a,by rw [d]; congr 1; omega,b⟩
   ·rintro ⟨j,q,a,d,b⟩
    cases j with
    | zero =>
      simp only [yB,Option.some.injEq] at a;subst a;rw [if_pos b];exact yh.2 (.inl (by rw [d,yK]))
    | succ j =>
      have:=f.2 ⟨j,q,by simpa using a,by rw [d]; congr 1; omega,b⟩;split
      ·exact yb _ this
      ·exact this
theorem zol (i : Int) : ∀ (r : List (List Int)) (k : Nat),(zjh i k r).Pairwise (· < ·)
 | [],_ => by simp [zjh]
 | l :: r,k => by
   have a:=zol i r (k + 1);rw [zjh];split
   ·rw [yk]
    refine ⟨fun y b => ?_,a⟩;obtain ⟨j,q,c,e,d⟩:=(zpw i y r (k + 1)).1 b;omega
   ·exact a
theorem zn0 {n : Int} : ∀ {l : List Int} {last : Int},zag n last l = true → l.Pairwise (· < ·)
 | [],_,_ => by simp
 | y :: r,last,h => by
   simp only [zag] at h;split at h
   ·cases h
   ·rw [yk]
    exact ⟨fun x a => (zrn h x a).1,zn0 h⟩
theorem zqc (i : Int) : ∀ (l : List Int) (out : List (List Int)),(∀ x ∈ l,0 ≤ x ∧ x < (out.length : Int)) → l.Pairwise (· < ·) →
  (∀ (X : Nat),X < out.length → ∀ y ∈ out.getD X [],y < i ∨ (y = i ∧ (X : Int) ∉ l)) → (∀ (X : Nat),X < out.length → (out.getD X []).Pairwise (· < ·)) →
  ∀ (X : Nat),X < out.length → ((l.foldl (zwV i) out).getD X []).Pairwise (· < ·)
 | [],out,_,_,_,h => h
 | x :: l,out,hx,hl,h1,h2 => by
   rw [y5];have f:=hx x ya;rw [yk] at hl;have g : x ∉ l:=fun h => by have:=hl.1 x h; omega
   have:=zqc i l (zwV i out x) (fun y e => by rw [zhf]; exact hx y (yb _ e)) hl.2 (fun X d y e => ?_) (fun X d => ?_)
   ·rw [zhf] at this
    exact this
   ·rw [zhf] at d
    rw [zu0 i out x X f.1 d] at e;split at e
    ·rename_i c
     rcases yp.1 e with e | e
     ·rcases h1 X d y e with h | ⟨_,h⟩
      ·exact .inl h
      ·exact absurd (by rw [← c]; exact ya) h
     ·exact .inr ⟨yi.1 e,by rw [← c]; exact g⟩
    ·rcases h1 X d y e with h | ⟨h,k⟩
     ·exact .inl h
     ·exact .inr ⟨h,fun hm => k (yb _ hm)⟩
   ·rw [zhf] at d
    rw [zu0 i out x X f.1 d];split
    ·rename_i c
     rw [List.pairwise_append];refine ⟨h2 X d,by simp,fun a m b j => ?_⟩;rw [yi.1 j];rcases h1 X d a m with h | ⟨_,h⟩
     ·exact h
     ·exact absurd (by rw [← c]; exact ya) h
    ·exact h2 X d
theorem zkT (N : Nat) : ∀ (l : List (List Int)) (i : Nat) (out : List (List Int)),out.length = N → (∀ r ∈ l,(∀ x ∈ r,0 ≤ x ∧ x < (N : Int)) ∧ r.Pairwise (· < ·)) →
  (∀ (X : Nat),X < N → ∀ y ∈ out.getD X [],y < (i : Int)) → (∀ (X : Nat),X < N → (out.getD X []).Pairwise (· < ·)) →
  ∀ (X : Nat),X < N → ((zbH i l out).getD X []).Pairwise (· < ·)
 | [],_,_,_,_,_,h => h
 | r :: l,i,out,ho,hl,h1,h2 => by
   rw [zbH];subst ho;have c:=hl r ya;refine zkT _ l (i + 1) _ (zhA _ _ _) (fun q d => hl q (yb _ d)) (fun X a y b => ?_) (zqc i r out c.1 c.2 (fun X a y b => .inl (h1 X a y b)) h2);rcases (zri (i : Int) X y r out (fun x e => (c.1 x e).1) a).1 b with h | h
   ·have:=h1 X a y h
    omega
   ·omega
theorem zBv {succ : List (List Int)} (h : zbY succ = true) : zAo succ succ.length = z7 succ:=by
 obtain ⟨s,n64,o⟩:=zfA h
 have d : ∀ l ∈ succ,zag succ.length (-1) l = true:=fun l hl => by
  unfold zbY at h;simp only [y0,yR,decide_eq_false_iff_not,yL] at h;have b : rising l succ.length = true:=by simpa using h.2.2 l hl
  exact b
 apply yy;intro j
 by_cases c : j < succ.length
 ·rw [zoj succ _ j c,if_pos c]
  have a : j < (z7 succ).length:=by rw [zcT]; exact c
  rw [yf a]
  congr 1
  have e : (z7 succ)[j] = (z7 succ).getD j []:=by rw [yc,yf a]; rfl
  rw [e]
  have q : ((z7 succ).getD j []).Pairwise (· < ·):=zkT succ.length succ 0 _ (by simp) (fun r f => ⟨o r f,zn0 (d r f)⟩) (fun X i y n => by
   rw [yc,ym,if_pos i] at n
   simp at n) (fun X i => by
   rw [yc,ym,if_pos i]
   simp) j c
  refine zqZ (zol _ _ _) q fun y => ?_;have m:=zoC o (x:=(j : Int)) ⟨by omega,by omega⟩ y;rw [ye] at m;rw [m,zpw];constructor
  ·rintro ⟨k,l,g,p,b⟩
   have t:=(ys.1 g).1;refine ⟨by omega,by omega,?_⟩;rw [show y.toNat = k by omega,yc,g];exact b
  ·rintro ⟨g,p,b⟩
   have a : y.toNat < succ.length:=(by omega);rw [yc,yf a] at b;exact ⟨y.toNat,succ[y.toNat],yf a,by omega,b⟩
 ·rw [yl (by rw [zgW]; omega),yl (by rw [zcT]; omega)]
theorem zF4 {succ : List (List Int)} (a : 1 ≤ succ.length) (b : succ.length ≤ 64) : zbY succ = succ.all fun l => rising l succ.length:=by
 unfold zbY;rw [decide_eq_false (by omega),decide_eq_false (by omega),yad,yad]
 induction succ.length generalizing succ <;> rw [List.not_any_eq_all_not] <;> simp
theorem zpO (succ : List (List Int)) (p : zl5 succ) : call T 129 [vLs succ] [] = some (zlE succ,[]):=by
 rw [ze (fn:=za5) rfl]
 by_cases c1 : succ.length < 1
 ·have a : (succ.length : Int) = 0:=by omega
  simp -implicitDefEqProofs only [go_sem,za5,zlE,zbY,c1,eq_true a,yd]
 have a : ¬ (succ.length : Int) = 0:=by omega
 by_cases c2 : 64 < succ.length
 ·have b : (succ.length : Int) > 64:=by omega
  simp -implicitDefEqProofs only [go_sem,za5,zlE,zbY,c1,a,c2,eq_true b,yd]
 have b : ¬ (succ.length : Int) > 64:=by omega
 have o:=zF4 (succ:=succ) (by omega) (by omega);have j:=fun a2 a5 a6 a7 a8 a9 g c e d h f => zE1 succ (by omega) p.2 succ.length 0 a2 a5 a6 a7 a8 a9 g c e d h f (by omega) (by omega);simp only [yq,yC,← o] at j;cases c3 : zbY succ
 ·simp -implicitDefEqProofs only [go_sem,c3] at j
  simp -implicitDefEqProofs only [go_sem,za5,zlE,c3,a,b,yd,j]
 ·have m:=fun a2 a4 a5 a8 a9 g c e d h f => zFV succ (by omega) p.2 succ.length 0 a2 a4 a5 a8 a9 g c e d h f (by omega) (by omega)
  have i:=zHC 1 succ.length;have q : (zAo succ 0).map yaa = yu succ.length 0:=by rw [zwo,List.map_replicate]; rfl
  have n : apT 1 0 (zAo succ 0) = apT 1 0 (yu succ.length []):=by rw [zwo]
  have k : (succ.length : Int) ≤ (LIM : Int):=by unfold LIM; omega
  have l : zbo ((apT 1 0 (z7 succ)).take succ.length) = some ((z7 succ).map rl):=by
   rw [yM (by rw [zmy,zcT]; omega),zCz]
  simp only [yq,zBv c3] at m;simp -implicitDefEqProofs only [go_sem,c3] at j;simp -implicitDefEqProofs only [go_sem,sM4,q,n] at m;simp -implicitDefEqProofs only [go_sem,za5,zlE,c3,a,b,yd,j,k,yg,ye,i,m,l]
def zpD (to : List Int) : Nat → Nat → List Int
 | _,0 => []
 | k,d + 1 => if (k : Int) ∈ to then (k : Int) :: zpD to (k + 1) d else zpD to (k + 1) d
theorem zrq (to : List Int) (y : Int) : ∀ (d k : Nat),y ∈ zpD to k d ↔ y ∈ to ∧ (k : Int) ≤ y ∧ y < ((k + d : Nat) : Int)
 | 0,k => by simp [zpD]
 | d + 1,k => by
   have g:=zrq to y d (k + 1);rw [zpD];split
   ·rename_i c
    rw [yh,g];constructor
    ·rintro (h | ⟨a,f,b⟩)
     ·exact ⟨h ▸ c,by omega,by omega⟩
     ·exact ⟨a,by omega,by omega⟩
    ·rintro ⟨a,f,b⟩
     by_cases e : y = k
     ·exact .inl e
     ·exact .inr ⟨a,by omega,by omega⟩
   ·rename_i c
    rw [g];constructor
    ·rintro ⟨a,f,b⟩
     exact ⟨a,by omega,by omega⟩
    ·rintro ⟨a,f,b⟩
     have e : y ≠ k:=fun e => c (e ▸ a);exact ⟨a,by omega,by omega⟩
theorem zqa (to : List Int) : ∀ (d k : Nat),(zpD to k d).Pairwise (· < ·)
 | 0,_ => by simp [zpD]
 | d + 1,k => by
   have a:=zqa to d (k + 1);rw [zpD];split
   ·rw [yk]
    refine ⟨fun y b => ?_,a⟩;have:=(zrq to y d (k + 1)).1 b;omega
   ·exact a
theorem zon : ∀ (l : List Int),l.Pairwise (· ≤ ·) → (zam l).Pairwise (· < ·) ∧ ∀ x,x ∈ zam l ↔ x ∈ l
 | [],_ => by simp [zam]
 | [x],_ => by simp [zam]
 | x :: y :: r,h => by
   rw [yk] at h;obtain ⟨g,f⟩:=zon (y :: r) h.2;rw [zam];split
   ·rename_i c
    subst c;refine ⟨g,fun z => ?_⟩;rw [f z];simp
   ·rename_i c
    rw [yk];refine ⟨⟨fun z j => ?_,g⟩,fun z => ?_⟩
    ·have d:=(f z).1 j
     have i:=h.1 y ya;have k:=h.1 z d;rcases yh.1 d with e | e
     ·omega
     ·have:=(yk.1 h.2).1 z e
      omega
    ·rw [yh,f z,yh (a:=z) (b:=x)]
theorem zyo (l : List Int) : (zkZ l).Pairwise (· ≤ ·) ∧ ∀ x,x ∈ zkZ l ↔ x ∈ l:=by
 have d : (zkZ l).Pairwise (fun a b => decide (a ≤ b) = true):=List.pairwise_mergeSort (fun a b c d e => by simp only [decide_eq_true_eq] at *; omega) (fun a b => by simp only [y8,decide_eq_true_eq]; omega) l;exact ⟨d.imp fun h => by simpa using h,fun x => (List.mergeSort_perm l _).mem_iff⟩
theorem zyq (l : List Int) : (zsA l).Pairwise (· < ·) ∧ ∀ x,x ∈ zsA l ↔ x ∈ l:=by
 obtain ⟨a,d⟩:=zyo l;obtain ⟨b,c⟩:=zon _ a;exact ⟨b,fun x => (c x).trans (d x)⟩
theorem zAu {to : List Int} {n : Nat} (hn : 1 ≤ n) (h : to.any (zmQ n) = false) : zpD to 1 (n - 1) = zsA to:=by
 obtain ⟨b,c⟩:=zyq to;refine zqZ (zqa _ _ _) b fun x => ?_;rw [zrq,c x];constructor
 ·exact fun h => h.1
 ·intro a
  have:=yL.1 h x a;simp only [zmQ,y8,decide_eq_true_eq] at this;exact ⟨a,by omega,by omega⟩
section
variable (f : PFunc) (hf : okF f) (hn1 : 1 ≤ f.blocks.length) (hn : f.blocks.length ≤ 64)
abbrev s6 (k : Nat) (r : zd) : zd:=.cells 0 3 [zaP f] :: .cells 0 2 [[.f (.sl []),.f (.sl [])]] :: .tok 1 [k] :: r
abbrev oE (b : PBlock) : Ob:=.cells 0 3 [[.f (ei b.kind),.f (ei b.arg),.f (eI b.to)]]
include hf hn1 hn
theorem zJQ (b : PBlock) (t : okB b) (q i : Nat) (rows : List (List Fz)) : ∀ (d k : Nat) (a0 a3 m c h g n l o j : V),b.to.length - k = d → k ≤ b.to.length →
  exec T zdZ ⟨[a0,.one (.ptr 0 0 0 0),.one (.ptr 1 0 0 0),a3,vI f.blocks.length,.one (.ap 2 0 rows),vI i,.one (.ptr 3 0 0 0),.one (.ap 4 0 []),vI k,m,c,h,g,n,l,o,j],s6 f q [oE b,.tok 1 [0]],0,0⟩ =
   some (if (b.to.drop k).any (zmQ f.blocks.length) = true then (.ret,⟨[vU,vU,.one (.ptr 1 0 0 0),vI 5,vU,vU,vU,vU,vU,vU,vU,vU,vU,vU,vU,vU,vU,vU],s6 f q [oE b,.tok 1 [0]],0,0⟩)
    else (.exit 2,⟨[vU,.one (.ptr 0 0 0 0),.one (.ptr 1 0 0 0),vU,vI f.blocks.length,.one (.ap 2 0 rows),vI i,.one (.ptr 3 0 0 0),.one (.ap 4 0 []),vU,vU,vU,vU,vU,vU,vU,vU,vU],s6 f q [oE b,.tok 1 [0]],0,0⟩)):=by
 intro d
 induction d with
 | zero =>
   intro k a0 a3 m c h g n l o j v u;have a : k = b.to.length:=(by omega);subst a;rw [xl zdZ rfl,zgd];simp -implicitDefEqProofs only [go_sem,s6,oE,yv,yd,yx,List.any_nil,yo]
 | succ d ih =>
   intro k a0 a3 m c h g n l o j v u;have a : k < b.to.length:=(by omega);have hd : b.to.drop k = b.to[k] :: b.to.drop (k + 1):=yn a;have p:=zt (r:=ri) a;obtain ⟨x,s⟩ : ∃ x,x = b.to[k]:=⟨_,rfl⟩;rw [← s] at p;have:=ih (k + 1) vU vU vU vU vU vU vU vU vU vU (by omega) (by omega);rw [xl zdZ rfl,zgd,hd,List.any_cons,← s]
   by_cases c1 : x ≤ 0
   ·have e : zmQ f.blocks.length x = true:=by simp [zmQ]; omega
    simp -implicitDefEqProofs only [go_sem,s6,oE,ilt a,p,ri,yd,eq_true c1,e,yg,ye]
   ·by_cases c2 : x ≥ (f.blocks.length : Int)
    ·have e : zmQ f.blocks.length x = true:=by simp [zmQ]; omega
     simp -implicitDefEqProofs only [go_sem,s6,oE,ilt a,p,ri,yd,c1,eq_true c2,e,yg,ye]
    ·have e : zmQ f.blocks.length x = false:=by simp [zmQ]; omega
     simp -implicitDefEqProofs only [go_sem,s6,oE] at this;simp -implicitDefEqProofs only [go_sem,s6,oE,ilt a,p,ri,yd,c1,c2,e,yg,ye,za a t.to,this]
theorem zJX (b : PBlock) (r : okB b) (q i : Nat) (rows : List (List Fz)) : ∀ (d k : Nat) (acc : List Int) (a0 a3 a9 a g e l j m h : V),f.blocks.length - k = d → k ≤ f.blocks.length → acc.length ≤ k →
  exec T zd8 ⟨[a0,.one (.ptr 0 0 0 0),.one (.ptr 1 0 0 0),a3,vI f.blocks.length,.one (.ap 2 0 rows),vI i,.one (.ptr 3 0 0 0),.one (.ap 4 0 (acc.map ri)),a9,vI k,a,g,e,l,j,m,h],s6 f q [oE b,.tok 1 [acc.length]],0,0⟩ =
   some (.exit 4,⟨[vU,.one (.ptr 0 0 0 0),.one (.ptr 1 0 0 0),vU,vI f.blocks.length,.one (.ap 2 0 rows),vI i,vU,.one (.ap 4 0 ((acc ++ zpD b.to k d).map ri)),vU,vU,vU,vU,vU,vU,vU,vU,vU],s6 f q [oE b,.tok 1 [(acc ++ zpD b.to k d).length]],0,0⟩):=by
 intro d
 induction d with
 | zero =>
   intro k acc a0 a3 a9 a g e l j m h u t s;have n : k = f.blocks.length:=(by omega);subst n;rw [xl zd8 rfl,zgk];simp -implicitDefEqProofs only [go_sem,s6,oE,yv,zpD,y6]
 | succ d ih =>
   intro k acc a0 a3 a9 a g e l j m h u t s;have n : k < f.blocks.length:=(by omega);have p:=zno b.to (k : Int) r.to;rw [xl zd8 rfl,zgk,zpD]
   by_cases c : (k : Int) ∈ b.to
   ·have:=ih (k + 1) (acc ++ [(k : Int)]) vU vU vU vU vU vU vU vU vU vU (by omega) (by omega) (by simp; omega)
    have o : acc.length + 1 ≤ LIM:=(by unfold LIM; omega);have e1 : yah ri acc ++ [[Fz.lit (Value.int .i64 (k : Int))]] = yah ri (acc ++ [(k : Int)]):=(by simp [ri]);rw [yG,yH] at this;simp -implicitDefEqProofs only [go_sem,decide_eq_true c] at p;simp -implicitDefEqProofs only [go_sem,s6,oE,yt,yr,yJ,yQ] at this;simp -implicitDefEqProofs only [go_sem,s6,oE,ilt n,p,c,o,e1,yd,za n (show f.blocks.length ≤ 4294967296 by omega),yt,yr,this]
   ·have:=ih (k + 1) acc vU vU vU vU vU vU vU vU vU vU (by omega) (by omega) (by omega)
    simp -implicitDefEqProofs only [go_sem,decide_eq_false c] at p;simp -implicitDefEqProofs only [go_sem,s6,oE] at this;simp -implicitDefEqProofs only [go_sem,s6,oE,ilt n,p,c,za n (show f.blocks.length ≤ 4294967296 by omega),this]
theorem zJY : ∀ (d k : Nat),f.blocks.length - k = d → k ≤ f.blocks.length → ∃ r,∀ (a0 a3 a7 a8 a9 n a g c l i m j : V),
  exec T zav ⟨[a0,.one (.ptr 0 0 0 0),.one (.ptr 1 0 0 0),a3,vI f.blocks.length,.one (.ap 2 0 (((zn f).take k).map rl)),vI k,a7,a8,a9,n,a,g,c,l,i,m,j],s6 f k [],0,0⟩ =
   some (if (f.blocks.drop k).all (zkO f.blocks.length) = true then (.exit 0,⟨[vU,vU,.one (.ptr 1 0 0 0),vU,vU,.one (.ap 2 0 ((zn f).map rl)),vU,vU,vU,vU,vU,vU,vU,vU,vU,vU,vU,vU],s6 f f.blocks.length [],0,0⟩)
    else (.ret,⟨[vU,vU,.one (.ptr 1 0 0 0),vI 5,vU,vU,vU,vU,vU,vU,vU,vU,vU,vU,vU,vU,vU,vU],.cells 0 3 [zaP f] :: .cells 0 2 [[.f (.sl []),.f (.sl [])]] :: r,0,0⟩)):=by
 intro d
 induction d with
 | zero =>
   intro k H G;have p : k = f.blocks.length:=(by omega);subst p;refine ⟨[],fun a0 a3 a7 a8 a9 n a g c l i m j => ?_⟩;have e : (zn f).take f.blocks.length = zn f:=yM (by simp [zn]);rw [xl zav rfl,zaM];simp -implicitDefEqProofs only [go_sem,s6,yv,yx,yaf,e]
 | succ d ih =>
   intro k H G;have p : k < f.blocks.length:=(by omega);have hd : f.blocks.drop k = f.blocks[k] :: f.blocks.drop (k + 1):=yn p;obtain ⟨b,s⟩ : ∃ b,b = f.blocks[k]:=⟨_,rfl⟩;have A:=hf.block _ (yz p);have t:=zt (r:=rb) p;rw [← s] at A t;obtain ⟨r,E⟩:=ih (k + 1) (by omega) (by omega);have z : k < (zn f).length:=by simp [zn]; omega
   have D : (zn f).take (k + 1) = (zn f).take k ++ [zsA b.to]:=by
    rw [List.take_succ_eq_append_getElem z];simp [zn,s]
   have B : (((zn f).take k).map rl).length = k:=(by simp [zn]; omega);have x : k + 1 ≤ LIM:=(by unfold LIM; omega);rw [hd,y1,← s]
   by_cases g0 : b.kind < 0
   ·have e : zkO f.blocks.length b = false:=by
     have : zn8 b.kind = -1:=(by unfold zn8; rw [if_neg (by omega),if_neg (by omega),if_neg (by omega)]);unfold zkO;rw [this,decide_eq_false (by omega)];rfl
    refine ⟨[.tok 1 [k],oE b],fun a0 a3 a7 a8 a9 n a g c l i m j => ?_⟩;rw [xl zav rfl,zaM];simp -implicitDefEqProofs only [go_sem,s6,ilt p,t,rb,yd,yg,ye,eq_true g0,e]
   by_cases y : b.kind > 3
   ·have e : zkO f.blocks.length b = false:=by
     have : zn8 b.kind = -1:=(by unfold zn8; rw [if_neg (by omega),if_neg (by omega),if_neg (by omega)]);unfold zkO;rw [this,decide_eq_false (by omega)];rfl
    refine ⟨[.tok 1 [k],oE b],fun a0 a3 a7 a8 a9 n a g c l i m j => ?_⟩;rw [xl zav rfl,zaM];simp -implicitDefEqProofs only [go_sem,s6,ilt p,t,rb,yd,yg,ye,g0,eq_true y,e]
   have o : [ri 0,ri 1,ri 2,ri 0][b.kind.toNat]? = some (ri (zn8 b.kind)):=by
    have : b.kind = 0 ∨ b.kind = 1 ∨ b.kind = 2 ∨ b.kind = 3:=(by omega);rcases this with h | h | h | h <;> rw [h] <;> rfl
   have q : 0 ≤ b.kind:=by omega
   by_cases w : (b.to.length : Int) = zn8 b.kind
   ·have v:=fun a0 a3 n a g c l i m j => zJQ f hf hn1 hn b A k k (((zn f).take k).map rl) b.to.length 0 a0 a3 n a g c l i m j (by omega) (by omega)
    simp only [yq,yC] at v;cases u : b.to.any (zmQ f.blocks.length)
    ·have e : zkO f.blocks.length b = true:=by
      unfold zkO;rw [u,decide_eq_true w.symm];rfl
     have C:=fun a0 a3 a9 a g c l i m j => zJX f hf hn1 hn b A k k (((zn f).take k).map rl) (f.blocks.length - 1) 1 [] a0 a3 a9 a g c l i m j rfl (by omega) (by simp);simp only [y7,zAu hn1 u,Int.natCast_one] at C;have e2 : ((zn f).take k).map rl ++ [[Fz.sl ((zsA b.to).map ri)]] = ((zn f).take (k + 1)).map rl:=(by rw [D,List.map_append]; rfl);refine ⟨r,fun a0 a3 a7 a8 a9 n a g c l i m j => ?_⟩;rw [xl zav rfl,zaM];simp -implicitDefEqProofs only [go_sem,s6,oE,u,yo] at v;simp -implicitDefEqProofs only [go_sem,s6,oE,yJ] at C;simp -implicitDefEqProofs only [go_sem,s6] at E;simp -implicitDefEqProofs only [ri] at o;simp -implicitDefEqProofs only [go_sem,s6,ilt p,t,rb,yd,yg,ye,g0,y,q,o,w,e,v,C,B,x,e2,za p (show f.blocks.length ≤ 4294967296 by omega),E]
    ·have e : zkO f.blocks.length b = false:=by
      unfold zkO;rw [u];simp
     refine ⟨[.tok 1 [k],oE b,.tok 1 [0]],fun a0 a3 a7 a8 a9 n a g c l i m j => ?_⟩;rw [xl zav rfl,zaM];simp -implicitDefEqProofs only [go_sem,s6,oE,u] at v;simp -implicitDefEqProofs only [ri] at o;simp -implicitDefEqProofs only [go_sem,s6,ilt p,t,rb,yd,yg,ye,g0,y,q,o,w,e,v]
   ·have e : zkO f.blocks.length b = false:=by
     unfold zkO;rw [decide_eq_false (fun h => w h.symm)];rfl
    refine ⟨[.tok 1 [k],oE b],fun a0 a3 a7 a8 a9 n a g c l i m j => ?_⟩;rw [xl zav rfl,zaM];simp -implicitDefEqProofs only [ri] at o;simp -implicitDefEqProofs only [go_sem,s6,ilt p,t,rb,yd,yg,ye,g0,y,q,o,w,e]
end
theorem ztg (f : PFunc) (hf : okF f) : call T 77 [za9 f] [] = some (zhZ f,[]):=by
 rw [ze (fn:=za3) rfl]
 by_cases c1 : f.blocks.length < 1
 ·have a : (f.blocks.length : Int) = 0:=by omega
  have e : zaQ f = false:=by
   have : (zn f).length = 0:=(by rw [zn,yd]; omega);unfold zaQ zbY;rw [this];simp
  simp -implicitDefEqProofs only [go_sem,za3,zhZ,e,eq_true a,yd,yo]
 have a : ¬ (f.blocks.length : Int) = 0:=by omega
 by_cases c2 : 64 < f.blocks.length
 ·have b : (f.blocks.length : Int) > 64:=by omega
  have e : zaQ f = false:=by unfold zaQ; rw [decide_eq_true c2]; rfl
  simp -implicitDefEqProofs only [go_sem,za3,zhZ,e,a,eq_true b,yd,yo]
 have b : ¬ (f.blocks.length : Int) > 64:=by omega
 obtain ⟨r,h⟩:=zJY f hf (by omega) (by omega) f.blocks.length 0 (by omega) (by omega);simp only [yq,yC,List.take_zero,List.map_nil] at h;cases c3 : f.blocks.all (zkO f.blocks.length)
 ·have e : zaQ f = false:=by unfold zaQ; rw [c3]; simp
  simp -implicitDefEqProofs only [go_sem,s6,c3,yo] at h;simp -implicitDefEqProofs only [go_sem,za3,zhZ,e,a,b,yd,yo,h]
 ·have c:=zpO (zn f) (zjN hf)
  have e : zaQ f = zbY (zn f):=by unfold zaQ; rw [c3,decide_eq_false c2]; simp
  simp -implicitDefEqProofs only [go_sem,s6,c3] at h;cases c4 : zbY (zn f)
  ·simp -implicitDefEqProofs only [go_sem,zlE,c4,yo] at c
   simp -implicitDefEqProofs only [go_sem,za3,zhZ,e,c4,a,b,yd,yo,h,c]
  ·simp -implicitDefEqProofs only [go_sem,zlE,c4] at c
   simp -implicitDefEqProofs only [go_sem,za3,zhZ,e,c4,a,b,yd,h,c]
def ofS (level : Int) (o : POp) : Bool :=
 !(decide (level < 2) && (decide (1 < o.lanes) || decide (20 < o.kind))) && (!(decide (level < 1) && decide (17 < o.kind)) && zeO o)
section
variable (f : PFunc) (hf : okF f) (level : Int) (x y z dd : C) (σ : zd) (hck : σ[1]? = some (zBy f level x y z dd)) (hσ : Ok σ)
include hck hσ
theorem zIf (o : POp) (b : ztZ o) : call T 203 [.one (.ptr 1 0 0 0),vOp o] σ = some (vB (ofS level o),σ):=by
 rw [ze (fn:=zaG) rfl];have hm:=zkI o b.1 b.2;have a:=zdm hck;simp -implicitDefEqProofs only [go_sem] at hm
 by_cases c1 : level < 2
 ·by_cases c2 : 1 < o.lanes
  ·simp -implicitDefEqProofs only [go_sem,zaG,a,c1,c2,ofS,Ok.at hσ]
  ·by_cases c3 : 20 < o.kind
   ·simp -implicitDefEqProofs only [go_sem,zaG,a,c1,c2,c3,ofS,Ok.at hσ]
   ·by_cases c4 : level < 1
    ·by_cases c5 : 17 < o.kind
     ·simp -implicitDefEqProofs only [go_sem,zaG,a,c1,c2,c3,c4,c5,ofS,Ok.at hσ]
     ·simp -implicitDefEqProofs only [go_sem,zaG,a,c1,c2,c3,c4,c5,ofS,Ok.at hσ,hm]
    ·simp -implicitDefEqProofs only [go_sem,zaG,a,c1,c2,c3,c4,ofS,Ok.at hσ,hm]
 ·have c4 : ¬ level < 1:=by omega
  simp -implicitDefEqProofs only [go_sem,zaG,a,c1,c4,ofS,Ok.at hσ,hm]
end
def zkV (level : Int) (b : PBlock) : Bool:=b.phis.all (fun p => zhe p.bits) && b.ops.all (ofS level)
def ze8 (level : Int) : List PBlock → Option PBlock
 | [] => none
 | b :: r => if zkV level b = true then ze8 level r else some b
def zfB (f : PFunc) (level : Int) : Bool:=zhe f.ret && (f.params.all zhe && f.blocks.all (zkV level))
theorem zkW (level : Int) : ∀ l : List PBlock,(ze8 level l).isNone = l.all (zkV level)
 | [] => rfl
 | b :: r => by
   simp only [ze8,y1];cases h : zkV level b
   ·simp
   ·simpa using zkW level r
theorem zws (b : Int) (σ : zd) : call T 198 [vI b] σ = some (vB (!zhe b),σ):=by
 rw [ze (fn:=zd4) rfl];simp -implicitDefEqProofs only [go_sem,zd4]
theorem zwa (p : PPhi) (σ : zd) (hσ : Ok σ) : call T 200 [zKx p] σ = some (vB (!zhe p.bits),σ):=by
 rw [ze (fn:=zd6) rfl];simp -implicitDefEqProofs only [go_sem,zd6,Ok.at hσ]
section
variable (f : PFunc) (hf : okF f) (level : Int) (x y z dd : C) (σ : zd) (hck : σ[1]? = some (zBy f level x y z dd)) (hσ : Ok σ)
include hck hσ
theorem zvF (o : POp) (g : ztZ o) (r : zd) (h : Obs.lt (σ.length + 1 + r.length) r = true) : call T 202 [vOp o,.one (.ptr σ.length 0 0 0)] (σ ++ .cells 0 1 [[.ptr 1 0 0 0]] :: r) = some (vB (!ofS level o),σ ++ .cells 0 1 [[.ptr 1 0 0 0]] :: r):=by
 rw [ze (fn:=zd2) rfl]
 have a : Ok (σ ++ .cells 0 1 [[.ptr 1 0 0 0]] :: r):=Ok.app hσ (by
  have e:=zrS (show σ.length + 1 + r.length ≤ σ.length + (r.length + 1) by omega) r h;have i:=zgU hck (r.length + 1)
  simp -implicitDefEqProofs only [go_sem,e,i])
 have b : Ok (σ ++ .cells 0 1 [[.ptr 1 0 0 0]] :: r ++ [.cells 0 6 [cOp o]]):=Ok.app a (by simp -implicitDefEqProofs only [go_sem]);have d:=zIf f level x y z dd (σ ++ .cells 0 1 [[.ptr 1 0 0 0]] :: r ++ [.cells 0 6 [cOp o]]) (by rw [yG]; exact zdm hck _) b o g;generalize hτ : σ ++ .cells 0 1 [[.ptr 1 0 0 0]] :: r = τ at *;have j : τ[σ.length]? = some (.cells 0 1 [[.ptr 1 0 0 0]]):=by rw [← hτ]; simp
 have c:=zdm j;simp -implicitDefEqProofs only [go_sem] at d;simp -implicitDefEqProofs only [go_sem,zd2,c,d,Ok.at a]
theorem zFM (hf : okF f) : ∀ (d k : Nat) (a0 a2 a3 a4 a5 a9 g : V),f.blocks.length - k = d → k ≤ f.blocks.length →
  exec T zcq ⟨[a0,.one (.ptr σ.length 0 0 0),a2,a3,a4,a5,vL (f.blocks.map rb),vI f.blocks.length,vI k,a9,g],σ ++ [.cells 0 1 [[.ptr 1 0 0 0]]],σ.length,σ.length⟩ =
   some (match ze8 level (f.blocks.drop k) with
    | none => (.exit 0,⟨[vU,vU,vU,vU,vU,vU,vU,vU,vU,vU,vU],σ ++ [.cells 0 1 [[.ptr 1 0 0 0]]],σ.length,σ.length⟩)
    | some b => (.ret,⟨[vU,vU,vI 6,vU,vU,vU,vU,vU,vU,vU,vU],σ ++ [.cells 0 1 [[.ptr 1 0 0 0]],.cells 0 5 [zx b]],σ.length,σ.length⟩)):=by
 intro d
 induction d with
 | zero =>
   intro k a0 a2 a3 a4 a5 a9 g q l;have a : k = f.blocks.length:=(by omega);subst a;rw [xl zcq rfl,zeC];simp -implicitDefEqProofs only [go_sem,yv,yx,ze8]
 | succ d ih =>
   intro k a0 a2 a3 a4 a5 a9 g q l;have a : k < f.blocks.length:=(by omega);have hd : f.blocks.drop k = f.blocks[k] :: f.blocks.drop (k + 1):=yn a;have h:=hf.block _ (yz a);have n:=zdm hck
   have i : Ok (σ ++ [.cells 0 1 [[.ptr 1 0 0 0]],.cells 0 5 [zx f.blocks[k]]]):=Ok.app hσ (by
    have l:=zgU hck 2
    simp -implicitDefEqProofs only [go_sem,l])
   have c:=zlt f.blocks[k].phis (fun p => !zhe p.bits) 200 [] [] (σ ++ [.cells 0 1 [[.ptr 1 0 0 0]],.cells 0 5 [zx f.blocks[k]]]) h.phis (fun p _ => zwa p _ i)
   have e:=zmJ f.blocks[k].ops (fun o => !ofS level o) 202 [] [.ptr σ.length 0 0 0] (σ ++ [.cells 0 1 [[.ptr 1 0 0 0]],.cells 0 5 [zx f.blocks[k]]]) h.ops (fun o e => by
    have:=zvF f level x y z dd σ hck hσ o (h.op o e) [.cells 0 5 [zx f.blocks[k]]] (by simp -implicitDefEqProofs only [go_sem])
    exact this)
   have j : (f.blocks[k].phis.any fun p => !zhe p.bits) = !f.blocks[k].phis.all (fun p => zhe p.bits):=(by rw [← zqP,y3]);have m : (f.blocks[k].ops.any fun p => !ofS level p) = !f.blocks[k].ops.all (ofS level):=(by rw [← zqP,y3]);rw [j] at c;rw [m] at e;rw [xl zcq rfl,zeC,hd,ze8];cases e1 : f.blocks[k].phis.all (fun p => zhe p.bits)
   ·simp -implicitDefEqProofs only [go_sem,e1] at c
    simp -implicitDefEqProofs only [go_sem,ilt a,zt a,rb,c,zkV,e1]
   ·cases e2 : f.blocks[k].ops.all (ofS level)
    ·simp -implicitDefEqProofs only [go_sem,e1,e2] at c e
     simp -implicitDefEqProofs only [go_sem,ilt a,zt a,rb,c,e,zkV,e1,e2]
    ·have:=ih (k + 1) vU vU vU vU vU vU vU (by omega) (by omega)
     simp -implicitDefEqProofs only [go_sem,e1,e2] at c e this;simp -implicitDefEqProofs only [go_sem,ilt a,zt a,rb,c,e,zkV,e1,e2,za a hf.blocks,Ok.up hσ,zgU hck,this]
theorem zAI (hf : okF f) : call T 160 [.one (.ptr 1 0 0 0)] σ = some (vI (if zfB f level = true then 0 else 6),σ):=by
 rw [ze (fn:=zaU) rfl];have a:=zdm hck;have g : (f.params.any fun p => !zhe p) = !f.params.all zhe:=by rw [← zqP,y3]
 have c:=zbm f.params (fun p => !zhe p) 198 [] [] (σ ++ [.cells 0 1 [[.ptr 1 0 0 0]]]) hf.params (fun p _ => zws p _);rw [g] at c;have h:=fun a0 a2 a3 a4 a5 a9 e => zFM f level x y z dd σ hck hσ hf f.blocks.length 0 a0 a2 a3 a4 a5 a9 e (by omega) (by omega);simp only [yC,yq] at h;have d:=zkW level f.blocks;cases e1 : zhe f.ret
 ·simp -implicitDefEqProofs only [go_sem,zaU,a,e1,zfB,Ok.at hσ]
 cases e2 : f.params.all zhe
 ·simp -implicitDefEqProofs only [go_sem,e2] at c
  simp -implicitDefEqProofs only [go_sem,zaU,a,e1,e2,c,zfB,Ok.at hσ]
 cases e3 : ze8 level f.blocks with
 | none =>
   rw [e3] at d;simp only [Option.isNone_none] at d;simp -implicitDefEqProofs only [go_sem,e2,e3] at c h;simp -implicitDefEqProofs only [go_sem,zaU,a,e1,e2,c,h,zfB,← d,Ok.at hσ]
 | some b =>
   rw [e3] at d;simp only [Option.isNone_some] at d;simp -implicitDefEqProofs only [go_sem,e2,e3] at c h;simp -implicitDefEqProofs only [go_sem,zaU,a,e1,e2,c,h,zfB,← d,Ok.at hσ]
end
end AC

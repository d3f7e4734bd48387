/- A part of the proof of SchedTells. Conditions: none. -/
import Derived.Test.YtmkncmffaaninaaGreatTBD
import Derived.Test.YtmkncmffaaninaaGreatTBF
import Derived.Test.YtmkncmffaaninaaGreatTBE
import Derived.Test.YtmkncmffaaninaaGreatTAW
set_option linter.all false
open Int renaming toNat_natCast → ya,natCast_nonneg → yg
open List renaming length_cons → yb,getElem?_eq_none → yc,getElem?_eq_getElem → yd,getD_eq_getElem?_getD → ye,length_nil → yf,ext_getElem? → yh,mem_cons_self → yi,mem_cons_of_mem → yk,length_append → yl,count_cons → ym,take_of_length_le → yo,getElem?_set → yp,getElem_mem → yq,length_reverse → yr,getElem?_eq_some_iff → ys,length_set → yt,getElem?_replicate → yu,mem_cons → yv,foldl_cons → yw,take_left' → yx,map_append → yy,getD_cons_zero → yz,map_set → yA,set_set → yK,map → yL
open Option renaming bind_some → yn,getD_some → yF
open Bool renaming not_eq_true' → yB,and_eq_true → yC,not_eq_true → yD
open Nat renaming mul_one → yE,add_zero → yG,zero_add → yH,le_refl → yI,zero_le → yJ
namespace AC
open Go Go.A Go.A.Lex
open Dm
inductive RW (succ : List (List Int)) (root w : Int) : Int → Prop
 | root : root ≠ w → RW succ root w root
 | step {p x : Int} : RW succ root w p → Eg succ p x → x ≠ w → RW succ root w x
def leB (a b : List Bool) : Prop:=∀ j : Nat,a.getD j false = true → b.getD j false = true
theorem leB.trans {a b c : List Bool} (h : leB a b) (k : leB b c) : leB a c:=fun j d => k j (h j d)
theorem zpI (w : Int) : ∀ (l : List Int) (out : List Bool),leB out (l.foldl (mark w) out)
 | [],out => fun j h => h
 | y :: l,out => fun j h => by
   rw [yw];exact zpI w l (mark w out y) j (zuk h)
theorem zwN (w : Int) : ∀ (l : List Int) (out : List Bool),(∀ y ∈ l,0 ≤ y ∧ y < (out.length : Int)) → ∀ y ∈ l,y ≠ w → (l.foldl (mark w) out).getD y.toNat false = true
 | [],_,_ => by simp
 | x :: l,out,hr => fun y b hw => by
   rw [yw];have a : ∀ z ∈ l,0 ≤ z ∧ z < ((mark w out x).length : Int):=fun z c => by rw [zmf]; exact hr z (yk _ c)
   rcases yv.1 b with rfl | b
   ·refine zpI w l _ _ ?_
    have:=hr y yi;unfold mark;rw [if_neg hw,zbw _ _ (by omega)]
   ·exact zwN w l _ a y b hw
theorem zmX (w : Int) : ∀ (r : List (List Int)) (i : Nat) (out : List Bool),leB out (zkg w i r out)
 | [],_,_ => fun j h => h
 | l :: r,i,out => by
   rw [zkg];refine leB.trans ?_ (zmX w r (i + 1) _);split
   ·exact zpI w l out
   ·exact fun j h => h
theorem zoH (w : Int) (n : Nat) : ∀ (r : List (List Int)) (i : Nat) (out : List Bool),out.length = n → (∀ l ∈ r,∀ y ∈ l,0 ≤ y ∧ y < (n : Int)) → leB (zkg w i r out) out →
  ∀ (j : Nat) (l : List Int),r[j]? = some l → out.getD (i + j) false = true → ∀ y ∈ l,y ≠ w → out.getD y.toNat false = true
 | [],_,_,_,_,_ => by simp
 | l :: r,i,out,ho,hr,hle => by
   intro j q c d y f hw;rw [zkg] at hle;obtain ⟨b,a⟩ : ∃ b,b = (if out.getD i false = true then l.foldl (mark w) out else out):=⟨_,rfl⟩;rw [← a] at hle
   have h1 : leB out b:=by
    rw [a];split
    ·exact zpI w l out
    ·exact fun j h => h
   have h2 : leB b out:=leB.trans (zmX w r (i + 1) b) hle
   have e : b.length = n:=by
    rw [a];split
    ·rw [ziv]; exact ho
    ·exact ho
   cases j with
   | zero =>
     simp only [List.getElem?_cons_zero,Option.some.injEq] at c;subst c;rw [yG] at d;refine h2 _ ?_;rw [a,if_pos d];exact zwN w l out (fun z k => by rw [ho]; exact hr l yi z k) y f hw
   | succ j =>
     have:=zoH w n r (i + 1) b e (fun l g => hr l (yk _ g)) (leB.trans hle h1) j q (by simpa using c) (by rw [show i + 1 + j = i + (j + 1) by omega]; exact h1 _ d) y f hw;exact h2 _ this
theorem count_le : ∀ (a b : List Bool),a.length = b.length → leB a b → a.count true ≤ b.count true ∧ ((∃ j,b.getD j false = true ∧ a.getD j false = false) → a.count true < b.count true)
 | [],b,h,_ => by
   have : b = []:=List.eq_nil_of_length_eq_zero (by simpa using h.symm);subst this;simp
 | x :: a,[],h,_ => by simp at h
 | x :: a,y :: b,h,hle => by
   have d : leB a b:=fun j c => by
    have:=hle (j + 1) (by simpa using c);simpa using this
   have h0:=hle 0;simp only [yz] at h0;obtain ⟨i1,i2⟩:=count_le a b (by simpa using h) d;constructor
   ·rw [ym,ym]
    cases x <;> cases y <;> simp at h0 ⊢ <;> omega
   ·rintro ⟨j,h1,h2⟩
    cases j with
    | zero =>
      simp only [yz] at h1 h2;subst h1 h2;rw [ym,ym];simp;omega
    | succ j =>
      have:=i2 ⟨j,by simpa using h1,by simpa using h2⟩;rw [ym,ym];cases x <;> cases y <;> simp at h0 ⊢ <;> omega
theorem zGr {a b : List Bool} (d : a.length = b.length) (h : leB a b) (k : leB b a) : a = b:=by
 apply yh;intro j
 by_cases c : j < a.length
 ·have cb : j < b.length:=by omega
  have e1 : a.getD j false = a[j]:=by rw [ye,yd c]; rfl
  have e2 : b.getD j false = b[j]:=by rw [ye,yd cb]; rfl
  have h1:=h j;have h2:=k j;rw [e1,e2] at h1 h2;rw [yd c,yd cb]
  congr 1
  cases ha : a[j] <;> cases hb : b[j] <;> simp_all
 ·rw [yc (by omega),yc (by omega)]
section
variable {succ : List (List Int)} (hr : ∀ l ∈ succ,∀ y ∈ l,0 ≤ y ∧ y < (succ.length : Int)) (root w : Int)
def zh8 (succ : List (List Int)) (w : Int) (out : List Bool) : Prop:=∀ (j : Nat) (l : List Int),succ[j]? = some l → out.getD j false = true → ∀ y ∈ l,y ≠ w → out.getD y.toNat false = true
include hr
theorem znQ : ∀ (r : Nat) (out : List Bool),out.length = succ.length → zh8 succ w (zfE w succ r out) ∨ out.count true + r ≤ (zfE w succ r out).count true
 | 0,out,_ => .inr (yI _)
 | r + 1,out,ho => by
   rw [zfE];have b:=zig w succ 0 out
   by_cases c : leB (zkg w 0 succ out) out
   ·have e:=zGr b c (zmX w succ 0 out)
    have f : zh8 succ w out:=fun j l h1 h2 => zoH w succ.length succ 0 out ho hr c j l h1 (by rw [yH]; exact h2)
    have st : ∀ k,zfE w succ k out = out:=by
     intro k
     induction k with
     | zero => rfl
     | succ k ih => rw [zfE,e,ih]
    left;rw [e,st];exact f
   ·have g : out.count true < (zkg w 0 succ out).count true:=by
     refine (count_le out _ b.symm (zmX w succ 0 out)).2 ?_;have hex : ∃ j,¬ ((zkg w 0 succ out).getD j false = true → out.getD j false = true):=Classical.not_forall.1 c;obtain ⟨j,d⟩:=hex;have a:=Classical.not_imp.1 d;exact ⟨j,a.1,by simpa using a.2⟩
    rcases znQ r (zkg w 0 succ out) (by rw [b]; exact ho) with h | h
    ·exact .inl h
    ·right; omega
theorem zxQ {out : List Bool} (P : Int → Prop) (h : ∀ j : Nat,out.getD j false = true → P (j : Int)) {y : Int} (h0 : 0 ≤ y) (b : y ≠ w → P y) : ∀ j : Nat,(mark w out y).getD j false = true → P (j : Int):=by
 intro j a;unfold mark at a;split at a
 ·exact h j a
 ·rename_i c
  by_cases e : y.toNat = j
  ·rw [show (j : Int) = y by omega]
   exact b c
  ·rw [getD_set_ne _ _ e] at a
   exact h j a
theorem zqW (P : Int → Prop) : ∀ (l : List Int) (out : List Bool),(∀ j : Nat,out.getD j false = true → P (j : Int)) → (∀ y ∈ l,0 ≤ y ∧ (y ≠ w → P y)) → ∀ j : Nat,(l.foldl (mark w) out).getD j false = true → P (j : Int)
 | [],_,h,_ => h
 | y :: l,out,h,hl => by
   rw [yw];exact zqW P l _ (zxQ hr w P h (hl y yi).1 (hl y yi).2) fun z a => hl z (yk _ a)
theorem zqB (P : Int → Prop) (e : ∀ p x,P p → Eg succ p x → x ≠ w → P x) : ∀ (r : List (List Int)) (i : Nat) (out : List Bool),(∀ j l,r[j]? = some l → succ[i + j]? = some l) → (∀ j : Nat,out.getD j false = true → P (j : Int)) → ∀ j : Nat,(zkg w i r out).getD j false = true → P (j : Int)
 | [],_,_,_,h => h
 | l :: r,i,out,hs,h => by
   rw [zkg];refine zqB P e r (i + 1) _ (fun j q f => ?_) ?_
   ·have:=hs (j + 1) q (by simpa using f)
    rwa [show i + (j + 1) = i + 1 + j by omega] at this
   ·split
    ·rename_i c
     have a:=hs 0 l rfl;rw [yG] at a;have b:=List.mem_of_getElem? a;have g:=(ys.1 a).1;refine zqW hr w P l out h fun y d => ⟨(hr l b y d).1,fun hw => e (i : Int) y (h i c) ⟨by omega,by omega,?_⟩ hw⟩;rw [ya,ye,a];exact d
    ·exact h
theorem zo6 (P : Int → Prop) (a : ∀ p x,P p → Eg succ p x → x ≠ w → P x) : ∀ (r : Nat) (out : List Bool),(∀ j : Nat,out.getD j false = true → P (j : Int)) → ∀ j : Nat,(zfE w succ r out).getD j false = true → P (j : Int)
 | 0,_,h => h
 | r + 1,out,h => by
   rw [zfE];exact zo6 P a r _ (zqB hr w P a succ 0 out (fun j l b => by rw [yH]; exact b) h)
theorem zt2 : ∀ (r : Nat) (out : List Bool),leB out (zfE w succ r out)
 | 0,_ => fun j h => h
 | r + 1,out => by
   rw [zfE];exact leB.trans (zmX w succ 0 out) (zt2 r _)
theorem zt0 (h0 : 0 ≤ root ∧ root < (succ.length : Int)) (j : Nat) : (zdU succ root w).getD j false = true ↔ RW succ root w (j : Int):=by
 unfold zdU
 by_cases c : root = w
 ·rw [if_pos c]
  constructor
  ·intro h
   rw [ye,yu] at h;split at h <;> simp at h
  ·intro h
   exfalso
   have key : ∀ x,RW succ root w x → False:=fun x hx => by
    induction hx with
    | root h => exact h c
    | step _ _ _ ih => exact ih
   exact key _ h
 ·rw [if_neg c]
  obtain ⟨d,b⟩ : ∃ o,o = (List.replicate succ.length false).set root.toNat true:=⟨_,rfl⟩;have g : d.length = succ.length:=by rw [b]; simp
  have f : d.getD root.toNat false = true:=by rw [b,zbw _ _ (by simp; omega)]
  rw [← b];constructor
  ·refine zo6 hr w (RW succ root w) (fun p x hp e hx => .step hp e hx) succ.length d (fun i m => ?_) j
   rw [b] at m
   by_cases e : root.toNat = i
   ·rw [show (i : Int) = root by omega]
    exact .root c
   ·rw [getD_set_ne _ _ e,ye,yu] at m
    split at m <;> simp at m
  ·have n : zh8 succ w (zfE w succ succ.length d):=by
    rcases znQ hr w succ.length d g with h | h
    ·exact h
    ·exfalso
     have h1 : 1 ≤ d.count true:=by
      rw [b,List.count_set (by simp; omega)];simp
     have h2 : (zfE w succ succ.length d).count true ≤ succ.length:=by
      have:=List.count_le_length (a:=true) (l:=zfE w succ succ.length d);rw [zhr,g] at this;exact this
     omega
   have key : ∀ x,RW succ root w x → 0 ≤ x ∧ (zfE w succ succ.length d).getD x.toNat false = true:=fun x hx => by
    induction hx with
    | root _ => exact ⟨h0.1,zt2 hr w _ _ _ f⟩
    | step _ e hx ih =>
      rename_i p x _;have rx:=zxr hr e;refine ⟨rx.1,?_⟩;obtain ⟨e1,e2,e3⟩:=e;have k : p.toNat < succ.length:=(by omega);rw [ye,yd k] at e3;exact n p.toNat succ[p.toNat] (yd k) ih.2 x e3 hx
   intro h;have:=(key _ h).2
   rwa [ya] at this
omit hr in
theorem zEy (x : Int) : RW succ root w x ↔ ∃ l,Way (Eg succ) root x l ∧ w ∉ l:=by
 constructor
 ·intro h
  induction h with
  | root h => exact ⟨_,.root,by simpa using fun e => h e.symm⟩
  | step _ e hx ih =>
    obtain ⟨l,h1,h2⟩:=ih;refine ⟨_,.step h1 e,fun hm => ?_⟩;rcases yv.1 hm with h | h
    ·exact hx h.symm
    ·exact h2 h
 ·rintro ⟨l,h1,h2⟩
  induction h1 with
  | root => exact .root fun e => h2 (by rw [e]; exact yi)
  | step h e ih => exact .step (ih fun hm => h2 (yk _ hm)) e fun e => h2 (by rw [e]; exact yi)
end
section
variable {succ : List (List Int)} (hm : zbA succ = true) {root : Nat} {O : Int → Prop} {pos : Int → Nat} {t : List Int} (Q : TreeOf succ (root : Int) O pos t)
include hm Q
theorem zws (j : Nat) : (zdU succ (root : Int) (-1)).getD j false = true ↔ O (j : Int):=by
 obtain ⟨b,n64,hr⟩:=zfa hm;rw [zt0 hr (root : Int) (-1) ⟨by omega,zoh Q⟩,zEy,Q.rch];constructor
 ·rintro ⟨l,h,_⟩; exact ⟨l,h⟩
 ·rintro ⟨l,h⟩
  refine ⟨l,h,fun a => ?_⟩;have:=Q.rng _ ((zxi Q.ord h).2 _ a);omega
theorem zmL (c b : Nat) : ovB succ (root : Int) c b = true ↔ O (b : Int) ∧ Dom (Eg succ) (root : Int) (c : Int) (b : Int):=by
 obtain ⟨d,n64,hr⟩:=zfa hm;unfold ovB;rw [yC,zws hm Q,yB,← yD,zt0 hr (root : Int) (c : Int) ⟨by omega,zoh Q⟩,zEy];constructor
 ·rintro ⟨h1,h2⟩
  refine ⟨h1,fun l w => ?_⟩
  by_cases a : (c : Int) ∈ l
  ·exact a
  ·exact absurd ⟨l,w,a⟩ h2
 ·rintro ⟨h1,h2⟩
  exact ⟨h1,fun ⟨l,w,a⟩ => a (h2 l w)⟩
theorem zty (b a : Nat) : ∀ (d k : Nat),zfN succ (root : Int) b a k d = true ↔ ∀ c,k ≤ c → c < k + d → c = b ∨ ¬ ovB succ (root : Int) c b = true ∨ ovB succ (root : Int) c a = true
 | 0,k => by simp [zfN]; omega
 | d + 1,k => by
   rw [zfN,yC,zty b a d (k + 1)];simp only [Bool.or_eq_true,decide_eq_true_eq,yB,yD];constructor
   ·rintro ⟨h1,h2⟩ c g f
    by_cases e : c = k
    ·subst e; exact h1
    ·exact h2 c (by omega) (by omega)
   ·intro h
    exact ⟨h k (by omega) (by omega),fun c g f => h c (by omega) (by omega)⟩
omit hm Q in
theorem zp0 (b : Nat) : ∀ (d k : Nat) (v : Int),(∀ c,k ≤ c → c < k + d → ¬ (c ≠ b ∧ ovB succ (root : Int) c b = true ∧ zfN succ (root : Int) b c 0 succ.length = true)) → zgI succ (root : Int) b k d v = v
 | 0,_,_,_ => rfl
 | d + 1,k,v,h => by
   have h0:=h k (by omega) (by omega);rw [zgI,if_neg,zp0 b d (k + 1) v fun c h1 h2 => h c (by omega) (by omega)];simpa using h0
omit hm Q in
theorem zwJ (b k0 : Nat) : ∀ (d k : Nat) (v : Int),k ≤ k0 → k0 < k + d → (k0 ≠ b ∧ ovB succ (root : Int) k0 b = true ∧ zfN succ (root : Int) b k0 0 succ.length = true) →
  (∀ c,k ≤ c → c < k + d → c ≠ k0 → ¬ (c ≠ b ∧ ovB succ (root : Int) c b = true ∧ zfN succ (root : Int) b c 0 succ.length = true)) → zgI succ (root : Int) b k d v = (k0 : Int)
 | 0,k,v,h1,h2,_,_ => by omega
 | d + 1,k,v,h1,h2,hp,hu => by
   rw [zgI]
   by_cases e : k = k0
   ·subst e
    rw [if_pos (by simpa using hp)];exact zp0 b d (k + 1) _ fun c h3 h4 => hu c (by omega) (by omega) (by omega)
   ·exact zwJ b k0 d (k + 1) _ (by omega) (by omega) hp fun c h3 h4 => hu c (by omega) (by omega)
theorem zzv : zfA succ (root : Int) = t.set root (-1):=by
 obtain ⟨x,n64,hr⟩:=zfa hm;apply yh;intro b
 by_cases hb : b < succ.length
 ·have v:=zl7 Q
  have i : b < (t.set root (-1)).length:=by omega
  rw [zfA,List.getElem?_map,List.getElem?_range hb,yd i];simp only [Option.map_some]
  congr 1
  have e : (t.set root (-1))[b] = tr (t.set root (-1)) (b : Int):=by
   unfold tr;rw [ya,ye,yd i];rfl
  rw [e];unfold ztR
  by_cases c : (b : Int) = (root : Int)
  ·rw [if_pos c,zq2 Q (by omega),if_pos c]
  ·rw [if_neg c]
   by_cases f : O (b : Int)
   ·obtain ⟨h1,h2,h3,h4⟩:=zuE Q f c
    have rp:=Q.rng _ h2;obtain ⟨p,hp⟩ : ∃ p : Nat,(p : Int) = tf t (b : Int):=⟨(tf t (b : Int)).toNat,by omega⟩;rw [h1,← hp];rw [← hp] at h2 h3 rp;have a : Dom (Eg succ) (root : Int) (p : Int) (b : Int):=(zwB Q.ord Q.inv Q.st f).1 (.step c (by rw [← hp]; exact .refl _))
    have o : ∀ d,Dom (Eg succ) (root : Int) d (b : Int) → d ≠ (b : Int) → Dom (Eg succ) (root : Int) d (p : Int):=fun d r u => by
     have:=Q.inv.A (b : Int) d c (zH9 Q f) r u
     rwa [← hp] at this
    have hpb : p ≠ b:=fun e => by rw [e] at h3; omega
    refine zwJ b p succ.length 0 (-2) (yJ _) (by omega) ⟨hpb,(zmL hm Q p b).2 ⟨f,a⟩,?_⟩ fun k _ s g => ?_
    ·rw [zty hm Q]
     intro k _ s
     by_cases e1 : k = b
     ·exact .inl e1
     ·by_cases e2 : ovB succ (root : Int) k b = true
      ·exact .inr (.inr ((zmL hm Q k p).2 ⟨h2,o _ ((zmL hm Q k b).1 e2).2 (by omega)⟩))
      ·exact .inr (.inl e2)
    ·rintro ⟨w,q,n⟩
     rw [zty hm Q] at n;have l:=((zmL hm Q k b).1 q).2;rcases n p (yJ _) (by omega) with e1 | e1 | e1
     ·exact hpb e1
     ·exact e1 ((zmL hm Q p b).2 ⟨f,a⟩)
     ·obtain ⟨ok,j⟩:=(zmL hm Q p k).1 e1
      have m:=o _ l (by omega);rcases zs6 Q.ord ok j with e2 | e2
      ·exact g (by omega)
      ·rcases zs6 Q.ord h2 m with e3 | e3
       ·exact g (by omega)
       ·omega
   ·rw [zBk Q f (by omega)]
    refine zp0 b succ.length 0 (-2) fun k _ _ h => ?_;exact f ((zmL hm Q k b).1 h.2.1).1
 ·rw [yc (by simp [zfA]; omega),yc (by rw [zl7 Q]; omega)]
omit hm in
theorem zsr : ∀ (r : Nat) (acc : List Int) (a : Int),O a → pos a < r → ∃ ch,pathFrom (t.set root (-1)) r acc a = acc ++ a :: ch ∧ ∀ x,x ∈ a :: ch ↔ Anc (root : Int) (tf t) x a:=by
 intro r
 induction r with
 | zero => intro acc a _ h; omega
 | succ r ih =>
   intro acc a ha h;have ra:=Q.rng a ha;rw [pathFrom,if_neg (by rw [zl7 Q]; omega)]
   by_cases c : a = (root : Int)
   ·rw [if_pos (by rw [zq2 Q ra.1,if_pos c])]
    refine ⟨[],rfl,fun x => ?_⟩;rw [List.mem_singleton];constructor
    ·rintro rfl; exact .refl _
    ·intro hx
     by_cases e : x = a
     ·exact e
     ·exact absurd c (zo0 hx e).1
   ·obtain ⟨h1,h2,h3,h4⟩:=zuE Q ha c
    rw [h1,if_neg h4];obtain ⟨ch,e1,e2⟩:=ih (acc ++ [a]) (tf t a) h2 (by omega);refine ⟨tf t a :: ch,by rw [e1]; simp,fun x => ?_⟩;rw [yv,e2 x];constructor
    ·rintro (rfl | hx)
     ·exact .refl _
     ·exact .step c hx
    ·intro hx
     by_cases e : x = a
     ·exact .inl e
     ·exact .inr (zo0 hx e).2
omit hm in
theorem zBi {a b : Int} (ha : O a) (hb : O b) : znk (t.set root (-1)) a b = a ↔ zlP (t.set root (-1)) a b = true:=by
 rw [zw2 Q];unfold znk;rw [if_pos (zwG Q)];have hpa : pos a < (t.set root (-1)).length:=by rw [zl7 Q]; exact Q.low a ha
 have hpb : pos b < (t.set root (-1)).length:=by rw [zl7 Q]; exact Q.low b hb
 obtain ⟨ca,e1,e2⟩:=zsr Q _ [] a ha hpa;obtain ⟨cb,e3,e4⟩:=zsr Q _ [] b hb hpb;rw [List.nil_append] at e1 e3;have f1 : zjd (t.set root (-1)) a = a :: ca:=e1;have f2 : zjd (t.set root (-1)) b = b :: cb:=e3;rw [f1,f2,List.find?_cons]
 by_cases c : a ∈ b :: cb
 ·rw [decide_eq_true c]
  simp only [yF,true_iff];exact ⟨ha,hb,(e4 a).1 c⟩
 ·rw [decide_eq_false c]
  simp only;constructor
  ·intro h
   exfalso
   cases hf : ca.find? (fun x => decide (x ∈ b :: cb)) with
   | none =>
     rw [hf] at h;have:=(Q.rng a ha).1;simp at h;omega
   | some x =>
     rw [hf] at h;have:=List.find?_some hf;simp only [yF] at h;subst h;exact c (by simpa using this)
  ·rintro ⟨_,_,h⟩
   exact absurd ((e4 a).2 h) c
end
end AC
namespace AC
open Go Go.A Go.A.Lex
def rvK (l : List Int) (k : Nat) : List Int:=(List.range l.length).map fun j => if j < k ∨ l.length - k ≤ j then l.getD (l.length - 1 - j) 0 else l.getD j 0
theorem zi7 (l : List Int) (k : Nat) : (rvK l k).length = l.length:=by simp [rvK]
theorem zon (l : List Int) (k j : Nat) (h : j < l.length) : (rvK l k)[j]? = some (if j < k ∨ l.length - k ≤ j then l.getD (l.length - 1 - j) 0 else l.getD j 0):=by simp [rvK,h]
theorem zDT (l : List Int) : rvK l 0 = l:=by
 apply yh;intro j
 by_cases h : j < l.length
 ·rw [zon l 0 j h,if_neg (by omega)]
  simp [h]
 ·rw [yc (by rw [zi7]; omega),yc (by omega)]
theorem zFD (l : List Int) (k : Nat) (h : l.length ≤ 2 * k + 1) : rvK l k = l.reverse:=by
 apply yh;intro j
 by_cases a : j < l.length
 ·rw [zon l k j a,List.getElem?_reverse a]
  have b : l.length - 1 - j < l.length:=by omega
  by_cases c : j < k ∨ l.length - k ≤ j
  ·rw [if_pos c]
   simp [b]
  ·rw [if_neg c]
   have : l.length - 1 - j = j:=(by omega);rw [this];simp [a]
 ·rw [yc (by rw [zi7]; omega),yc (by simp; omega)]
theorem zCE (l : List Int) (k : Nat) (h : 2 * k + 1 < l.length) : ((rvK l k).set k (l.getD (l.length - 1 - k) 0)).set (l.length - 1 - k) (l.getD k 0) = rvK l (k + 1):=by
 apply yh;intro j
 by_cases a : j < l.length
 ·rw [zon l (k + 1) j a,yp,yp,zon l k j a]
  simp only [yt,zi7]
  by_cases c1 : l.length - 1 - k = j
  ·rw [if_pos c1,if_pos (by omega),if_pos (by omega)]
   have : l.length - 1 - j = k:=(by omega);rw [this]
  ·rw [if_neg c1]
   by_cases c2 : k = j
   ·rw [if_pos c2,if_pos (by omega),if_pos (by omega),c2]
   ·rw [if_neg c2]
    by_cases c3 : j < k ∨ l.length - k ≤ j
    ·rw [if_pos c3,if_pos (by omega)]
    ·rw [if_neg c3,if_neg (by omega)]
 ·rw [yc (by simp [zi7]; omega),yc (by rw [zi7]; omega)]
theorem znt {l : List Int} {j : Nat} {x : Int} (h : l[j]? = some x) : (l.map zn)[j]? = some [.f (.lit (.int .i64 x))]:=by simp [h,zn]
theorem zvx (σ : zd) (id a : Nat) (l : List Int) (s : l.length ≤ 4294967296) (g : id < σ.length) : ∀ (d k : Nat) (a3 : V),l.length - 2 * k ≤ d → 2 * k ≤ l.length →
  exec T za1 ⟨[.one (.own id a 0 l.length),vI k,vI ((l.length : Int) - 1 - k),a3],σ.set id (.cells a 1 ((rvK l k).map zn)),σ.length,σ.length⟩ =
   some (.exit 0,⟨[vU,vU,vU,vU],σ.set id (.cells a 1 (l.reverse.map zn)),σ.length,σ.length⟩):=by
 have b : ∀ k : Nat,¬ ((k : Int) < (l.length : Int) - 1 - k) → 2 * k ≤ l.length → ∀ (a3 : V),
  exec T za1 ⟨[.one (.own id a 0 l.length),vI k,vI ((l.length : Int) - 1 - k),a3],σ.set id (.cells a 1 ((rvK l k).map zn)),σ.length,σ.length⟩ =
   some (.exit 0,⟨[vU,vU,vU,vU],σ.set id (.cells a 1 (l.reverse.map zn)),σ.length,σ.length⟩):=by
  intro k e i a3;rw [xl za1 rfl,zey,zFD l k (by omega)];simp -implicitDefEqProofs only [go_sem,e,yt]
 intro d
 induction d with
 | zero =>
   intro k a3 o j;exact b k (by omega) j _
 | succ d ih =>
   intro k a3 o j
   by_cases e : (k : Int) < (l.length : Int) - 1 - k
   ·have i : k < l.length:=by omega
    have m : l.length - 1 - k < l.length:=(by omega);have n:=znt (zon l k k i);have h:=znt (zon l k (l.length - 1 - k) m);rw [if_neg (by omega)] at n h;have e1 : ((l.length : Int) - 1 - k).toNat = l.length - 1 - k:=(by omega);have e2 : (0 : Int) ≤ (l.length : Int) - 1 - k:=(by omega);have e3 : ((l.length : Int) - 1 - k < (l.length : Int)) = True:=(by simp; omega);have p : Go.IntKind.i64.wrap ((k : Int) + 1) = ((k + 1 : Nat) : Int):=(by rw [wrap_i64] <;> omega);have r : Go.IntKind.i64.wrap ((l.length : Int) - 1 - k - 1) = (l.length : Int) - 1 - ((k + 1 : Nat) : Int):=(by rw [wrap_i64] <;> omega);have t : ((l.map zn).length) = l.length:=(by simp);have st:=congrArg (yL zn) (zCE l k (by omega));rw [yA,yA] at st;have:=ih (k + 1) vU (by omega) (by omega);rw [← st] at this;have q : ¬ l.length - 1 - k = k:=by omega
    have c : ((yL zn (rvK l k)).set k (zn (l.getD (l.length - 1 - k) 0)))[l.length - 1 - k]? = some [.f (.lit (.int .i64 (l.getD (l.length - 1 - k) 0)))]:=by
     rw [List.getElem?_set_ne (by omega)];exact h
    rw [xl za1 rfl,zey];simp -implicitDefEqProofs only [go_sem,zn] at this c;simp -implicitDefEqProofs only [go_sem,e,e1,e2,e3,ilt i,yg,ya,List.getElem?_set_self g,n,h,c,yK,yt,p,r,this]
   ·exact b k e j _
theorem zvk (σ : zd) (id a : Nat) (l : List Int) (f : l.length ≤ 4294967296) (c : σ[id]? = some (.cells a 1 (l.map zn))) (n : Nat) (d : n = l.length) :
  call T 149 [.one (.own id a 0 n)] σ = some (.tup [],σ.set id (.cells a 1 (l.reverse.map zn))):=by
 subst d;rw [ze (fn:=zfx) rfl];have b : id < σ.length:=(ys.1 c).1;have h:=fun a3 => zvx σ id a l f b l.length 0 a3 (by omega) (by omega)
 have g : σ.set id (.cells a 1 (l.map zn)) = σ:=by
  apply yh;intro j;rw [yp]
  by_cases e : id = j
  ·subst e; rw [if_pos rfl,if_pos b,c]
  ·rw [if_neg e]
 rw [zDT,g] at h;simp only [Int.natCast_zero,Int.sub_zero] at h;have w : Go.IntKind.i64.wrap ((l.length : Int) - 1) = (l.length : Int) - 1:=by rw [wrap_i64] <;> omega
 simp -implicitDefEqProofs only [go_sem] at h;simp -implicitDefEqProofs only [go_sem,zfx,w,h,yt]
theorem n64 : ((64 : Nat) : Int) = 64:=rfl
attribute [go_sem] n64
def cB (b : Bool) : C:=.f (.lit (.bool b))
def cN (n : Nat) : C:=.f (.lit (.int .i64 n))
section
variable (succ pred : List (List Int)) (hn : succ.length ≤ 64) (hs : ∀ l ∈ succ,l.length ≤ 4294967296) (hr : ∀ l ∈ succ,∀ y ∈ l,0 ≤ y ∧ y < (succ.length : Int))
abbrev obG : Ob:=.cells 0 2 [[.f (.sl (succ.map rl)),.f (.sl (pred.map rl))]]
abbrev stO (seen : List Bool) (next : List Nat) (vo : Nat) (out : List Int) (vs : Nat) (row : List Int) : zd :=
 [obG succ pred,.cells 0 64 [seen.map cB],.cells 0 64 [next.map cN],.cells vo 1 (out.map zn),.cells vs 1 (row.map zn)]
include hn hs hr
theorem zwk (X : Nat) (x : X < succ.length) (seen : List Bool) (I : seen.length = 64) (u : Nat) (out : List Int) (vs : Nat) (row : List Int) (m : Nat) (hm : m ≤ row.length) (N : m + 1 ≤ 4294967296) : ∀ (d a : Nat) (next : List Nat) (a0 a1 a3 a9 t p r q : V),next.length = 64 → next[X]? = some a → succ[X].length - a = d → a ≤ succ[X].length →
  exec T zgR ⟨[a0,a1,.one (.ptr 0 0 0 0),a3,.one (.ptr 1 0 0 0),.one (.ptr 2 0 0 0),.one (.own 3 u 0 out.length),.one (.own 4 vs 0 m),vI X,a9,t,p,r,q],stO succ pred seen next u out vs row,0,0⟩ =
   some (match scan seen (succ[X].drop a) a with
    | none => (.exit 0,⟨[vU,vU,.one (.ptr 0 0 0 0),vU,.one (.ptr 1 0 0 0),.one (.ptr 2 0 0 0),.one (.own 3 u 0 out.length),.one (.own 4 vs 0 m),vI X,vU,vU,vU,vU,vU],stO succ pred seen (next.set X succ[X].length) u out vs row,0,0⟩)
    | some (y,j) => (.goto 0,⟨[vU,vU,.one (.ptr 0 0 0 0),vU,.one (.ptr 1 0 0 0),.one (.ptr 2 0 0 0),.one (.own 3 u 0 out.length),.one (.own 4 (vs + 1) 0 (m + 1)),vU,vU,vU,vU,vU,vU],stO succ pred (seen.set y.toNat true) (next.set X j) u out (vs + 1) (row.take m ++ [y]),0,0⟩)):=by
 intro d;have h : X < 64:=by omega
 have o : ((X : Int) < 64) = True:=by simp; omega
 have H:=hs _ (yq x)
 induction d with
 | zero =>
   intro a next a0 a1 a3 a9 t p r q b c L M
   have l : a = succ[X].length:=(by omega);subst l;have G : (next.map cN)[X]? = some (cN succ[X].length):=by simp [c]
   have E : next.set X succ[X].length = next:=by
    apply yh;intro j;rw [yp]
    by_cases e : X = j
    ·subst e; rw [if_pos rfl,if_pos (by omega),c]
    ·rw [if_neg e]
   rw [xl zgR rfl,ziC,E];simp -implicitDefEqProofs only [go_sem,stO,obG,zj x,rl,o,yg,ya,yE,G,cN,Int.lt_irrefl,List.drop_length,scan]
 | succ d ih =>
   intro a next a0 a1 a3 a9 t p r q b c L M
   have l : a < succ[X].length:=(by omega);have hd : succ[X].drop a = succ[X][a] :: succ[X].drop (a + 1):=List.drop_eq_getElem_cons l;obtain ⟨P,O⟩:=hr _ (yq x) _ (yq l);have v : (succ[X].map ri)[a]? = some (ri succ[X][a]):=zj l;generalize succ[X][a] = y at *;obtain ⟨Y,rfl⟩ : ∃ Y : Nat,y = Y:=⟨y.toNat,by omega⟩;have K : Y < 64:=(by omega);have A : ((Y : Int) < 64) = True:=(by simp; omega);have G : (next.map cN)[X]? = some (cN a):=(by simp [c]);have s:=zvA (e:=next.map cN) (k:=X) (.f (.lit (.int .i64 ((a + 1 : Nat) : Int)))) (by simp; omega);have J : C.f (.lit (.int .i64 ((a + 1 : Nat) : Int))) = cN (a + 1):=rfl;have z : (next.map cN).set X (C.f (.lit (.int .i64 ((a + 1 : Nat) : Int)))) = (next.set X (a + 1)).map cN:=(by rw [J,yA]);rw [z] at s;have hle:=zBv (show X < next.length by omega)
   have g : (seen.map cB)[Y]? = some (cB (seen.getD Y false)):=by
    have : Y < seen.length:=(by omega);simp [this]
   have i:=zvA (e:=seen.map cB) (k:=Y) (.f (.lit (.bool true))) (by simp; omega);have n : (seen.map cB).set Y (C.f (.lit (.bool true))) = (seen.set Y true).map cB:=(by rw [yA]; rfl);rw [n] at i;have B:=zBv (show Y < seen.length by omega);have hw : Go.IntKind.i64.wrap ((a : Int) + 1) = ((a + 1 : Nat) : Int):=za l H;have w : ((next.set X (a + 1)).map cN)[X]? = some (cN (a + 1)):=(by simp [b,h]);have D : 0 < m + 1 ∧ m + 1 ≤ LIM:=⟨by omega,by unfold LIM; omega⟩;rw [xl zgR rfl,ziC,hd,scan];rw [ya];cases e : seen.getD Y false
   ·rw [e] at g
    have er : (row.map zn).take m ++ [[C.f (.lit (.int .i64 (Y : Int)))]] = (row.take m ++ [(Y : Int)]).map zn:=(by simp [zn,List.map_take]);simp -implicitDefEqProofs only [go_sem,stO,obG,zj x,rl,o,yg,ya,yE,G,cN,ilt l,v,ri,A,hw,s,hle,w,g,cB,i,B,D,er]
   ·rw [e] at g
    have:=ih (a + 1) (next.set X (a + 1)) vU vU vU vU vU vU vU vU (by simpa using b) (by simp [b,h]) (by omega) (by omega);simp -implicitDefEqProofs only [go_sem,stO,obG,yK] at this;simp -implicitDefEqProofs only [go_sem,stO,obG,zj x,rl,o,yg,ya,yE,G,cN,ilt l,v,ri,A,hw,s,hle,w,g,cB,this]
end
attribute [go_sem] Option.any_some
def zks : Go.A.Code:=zt.p2.p2.p2.p2.p2.p2.p2
theorem zrG : ziD = .seq .skip zks:=rfl
section
variable (succ pred : List (List Int)) (hn : succ.length ≤ 64) (hs : ∀ l ∈ succ,l.length ≤ 4294967296) (hr : ∀ l ∈ succ,∀ y ∈ l,0 ≤ y ∧ y < (succ.length : Int))
include hn hs hr
theorem zwL {d : DF} (hd : DInv succ d) {x : Int} (f : 0 ≤ x ∧ x < (succ.length : Int)) {j : Nat} (a : j ≤ (succ.getD x.toNat []).length) : ∀ X,X < succ.length → (d.next.set x.toNat j).getD X 0 ≤ (succ.getD X []).length:=by
 intro X c;have b:=hd.next
 by_cases e : x.toNat = X
 ·subst e
  rw [zbw _ _ (by omega)];exact a
 ·rw [getD_set_ne _ _ e]
  exact hd.le X c
theorem zyM (d : DF) (a : List Int) (m vs : Nat) (X : Nat) (s : List Int) (y : Int) (j : Nat) (a0 a1 a3 a8 a9 l h k i : V) (hd : DInv succ d) (t : X < succ.length) (n : s.length + 2 ≤ 4294967296) (z : d.out.length + 1 ≤ 4294967296) (b : zg0 succ d X = some (y,j)) :
  exec T zks ⟨[a0,a1,.one (.ptr 0 0 0 0),a3,.one (.ptr 1 0 0 0),.one (.ptr 2 0 0 0),.one (.own 3 m 0 d.out.length),.one (.own 4 vs 0 (s.length + 1)),a8,a9,l,h,k,i],stO succ pred d.seen d.next m d.out vs (((X : Int) :: s).reverse ++ a),0,0⟩ =
   some (.goto 0,⟨[vU,vU,.one (.ptr 0 0 0 0),vU,.one (.ptr 1 0 0 0),.one (.ptr 2 0 0 0),.one (.own 3 m 0 d.out.length),.one (.own 4 (vs + 1) 0 (s.length + 2)),vU,vU,vU,vU,vU,vU],stO succ pred (d.seen.set y.toNat true) (d.next.set X j) m d.out (vs + 1) ((y :: (X : Int) :: s).reverse ++ []),0,0⟩):=by
 have r:=hd.next;have o : succ.getD X [] = succ[X]:=by simp [t]
 have u : d.next[X]? = some (d.next.getD X 0):=by
  have : X < d.next.length:=by omega
  simp [this]
 have hle:=hd.le X t;rw [o] at hle;have c:=fun a0 a1 a3 a9 l h k i => zwk succ pred hn hs hr X t d.seen hd.seen m d.out vs (((X : Int) :: s).reverse ++ a) (s.length + 1) (by simp only [yl,yr,yb,yf]; omega) (by first | omega | (simp only [yb,yf] at n ⊢; omega)) _ (d.next.getD X 0) d.next a0 a1 a3 a9 l h k i r u rfl hle
 have p : zg0 succ d (X : Int) = scan d.seen (succ[X].drop (d.next.getD X 0)) (d.next.getD X 0):=by
  unfold zg0;rw [ya,o]
 rw [p] at b
 have hw : Go.IntKind.i64.wrap (((s.length + 1 : Nat) : Int) - 1) = (s.length : Int):=by rw [wrap_i64] <;> first | omega | (simp only [yb,yf] at n ⊢; omega)
 have v : ((s.length : Int) < ((s.length + 1 : Nat) : Int)) = True:=by first | (simp; done) | (simp; omega)
 have g : ((((X : Int) :: s).reverse ++ a).map zn)[s.length]? = some [.f (.lit (.int .i64 (X : Int)))]:=by
  apply znt;simp
 have q : (((X : Int) :: s).reverse ++ a).take (s.length + 1) = ((X : Int) :: s).reverse:=yx (by simp);have w : 0 < d.out.length + 1 ∧ d.out.length + 1 ≤ LIM:=⟨by omega,by unfold LIM; omega⟩
 have eo : (d.out.map zn).take d.out.length ++ [[C.f (.lit (.int .i64 (X : Int)))]] = (d.out ++ [(X : Int)]).map zn:=by
  rw [yo (by simp),yy];rfl
 generalize hrow : ((X : Int) :: s).reverse ++ a = row at *;rw [b] at c;have e : (y :: (X : Int) :: s).reverse ++ [] = row.take (s.length + 1) ++ [y]:=by rw [q]; simp
 have x : 0 < s.length + 2 ∧ s.length + 2 ≤ LIM:=⟨by omega,by unfold LIM; omega⟩;rw [e];simp -implicitDefEqProofs only [go_sem,stO,obG] at c;simp -implicitDefEqProofs only [go_sem,zks,zt,Code.p2,stO,obG,hw,v,yg,ya,g,c]
theorem zBG (d : DF) (a : List Int) (e vs : Nat) (X : Nat)  (a0 a1 a3 a8 a9 k h j i : V) (hd : DInv succ d) (s : X < succ.length) (m : ([] : List Int).length + 2 ≤ 4294967296) (v : d.out.length + 1 ≤ 4294967296) (b : zg0 succ d X = none) :
  exec T zks ⟨[a0,a1,.one (.ptr 0 0 0 0),a3,.one (.ptr 1 0 0 0),.one (.ptr 2 0 0 0),.one (.own 3 e 0 d.out.length),.one (.own 4 vs 0 (([] : List Int).length + 1)),a8,a9,k,h,j,i],stO succ pred d.seen d.next e d.out vs (((X : Int) :: ([] : List Int)).reverse ++ a),0,0⟩ =
   some (.ret,⟨[vU,vU,vU,.one (.own 3 (e + 1) 0 (d.out.length + 1)),vU,vU,vU,vU,vU,vU,vU,vU,vU,vU],stO succ pred d.seen (d.next.set X succ[X].length) (e + 1) (d.out ++ [(X : Int)]).reverse vs (((X : Int) :: []).reverse ++ a),0,0⟩):=by
 have r:=hd.next;have n : succ.getD X [] = succ[X]:=by simp [s]
 have t : d.next[X]? = some (d.next.getD X 0):=by
  have : X < d.next.length:=by omega
  simp [this]
 have hle:=hd.le X s;rw [n] at hle;have g:=fun a0 a1 a3 a9 k h j i => zwk succ pred hn hs hr X s d.seen hd.seen e d.out vs (((X : Int) :: ([] : List Int)).reverse ++ a) (([] : List Int).length + 1) (by simp only [yl,yr,yb,yf]; omega) (by first | omega | (simp only [yb,yf] at m ⊢; omega)) _ (d.next.getD X 0) d.next a0 a1 a3 a9 k h j i r t rfl hle
 have q : zg0 succ d (X : Int) = scan d.seen (succ[X].drop (d.next.getD X 0)) (d.next.getD X 0):=by
  unfold zg0;rw [ya,n]
 rw [q] at b
 have hw : Go.IntKind.i64.wrap (((([] : List Int).length + 1 : Nat) : Int) - 1) = (([] : List Int).length : Int):=by rw [wrap_i64] <;> first | omega | (simp only [yb,yf] at m ⊢; omega)
 have o : ((([] : List Int).length : Int) < ((([] : List Int).length + 1 : Nat) : Int)) = True:=by first | (simp; done) | (simp; omega)
 have c : ((((X : Int) :: ([] : List Int)).reverse ++ a).map zn)[([] : List Int).length]? = some [.f (.lit (.int .i64 (X : Int)))]:=by
  apply znt;simp
 have u : (((X : Int) :: ([] : List Int)).reverse ++ a).take (([] : List Int).length + 1) = ((X : Int) :: ([] : List Int)).reverse:=yx (by simp);have p : 0 < d.out.length + 1 ∧ d.out.length + 1 ≤ LIM:=⟨by omega,by unfold LIM; omega⟩
 have eo : (d.out.map zn).take d.out.length ++ [[C.f (.lit (.int .i64 (X : Int)))]] = (d.out ++ [(X : Int)]).map zn:=by
  rw [yo (by simp),yy];rfl
 generalize hrow : ((X : Int) :: ([] : List Int)).reverse ++ a = row at *;rw [b] at g;have l:=zvk (stO succ pred d.seen (d.next.set X succ[X].length) (e + 1) (d.out ++ [(X : Int)]) vs row) 3 (e + 1) (d.out ++ [(X : Int)]) (by simp; omega) rfl (d.out.length + 1) (by simp);simp -implicitDefEqProofs only [go_sem,stO,obG] at g l hw o c;simp -implicitDefEqProofs only [go_sem,zks,zt,Code.p2,stO,obG,hw,o,yg,ya,c,g,p,eo,l]
theorem zBL (d : DF) (a : List Int) (n vs : Nat) (X : Nat) (z : Int) (b : List Int) (a0 a1 a3 a8 a9 l i k j : V) (hd : DInv succ d) (u : X < succ.length) (o : (z :: b).length + 2 ≤ 4294967296) (y : d.out.length + 1 ≤ 4294967296) (c : zg0 succ d X = none) :
  exec T zks ⟨[a0,a1,.one (.ptr 0 0 0 0),a3,.one (.ptr 1 0 0 0),.one (.ptr 2 0 0 0),.one (.own 3 n 0 d.out.length),.one (.own 4 vs 0 ((z :: b).length + 1)),a8,a9,l,i,k,j],stO succ pred d.seen d.next n d.out vs (((X : Int) :: (z :: b)).reverse ++ a),0,0⟩ =
   some (.goto 0,⟨[vU,vU,.one (.ptr 0 0 0 0),vU,.one (.ptr 1 0 0 0),.one (.ptr 2 0 0 0),.one (.own 3 (n + 1) 0 (d.out.length + 1)),.one (.own 4 vs 0 (b.length + 1)),vU,vU,vU,vU,vU,vU],stO succ pred d.seen (d.next.set X succ[X].length) (n + 1) (d.out ++ [(X : Int)]) vs ((z :: b).reverse ++ ((X : Int) :: a)),0,0⟩):=by
 have t:=hd.next;have p : succ.getD X [] = succ[X]:=by simp [u]
 have v : d.next[X]? = some (d.next.getD X 0):=by
  have : X < d.next.length:=by omega
  simp [this]
 have hle:=hd.le X u;rw [p] at hle;have h:=fun a0 a1 a3 a9 l i k j => zwk succ pred hn hs hr X u d.seen hd.seen n d.out vs (((X : Int) :: z :: b).reverse ++ a) ((z :: b).length + 1) (by simp only [yl,yr,yb,yf]; omega) (by first | omega | (simp only [yb,yf] at o ⊢; omega)) _ (d.next.getD X 0) d.next a0 a1 a3 a9 l i k j t v rfl hle
 have s : zg0 succ d (X : Int) = scan d.seen (succ[X].drop (d.next.getD X 0)) (d.next.getD X 0):=by
  unfold zg0;rw [ya,p]
 rw [s] at c
 have hw : Go.IntKind.i64.wrap ((((z :: b).length + 1 : Nat) : Int) - 1) = ((z :: b).length : Int):=by rw [wrap_i64] <;> first | omega | (simp only [yb,yf] at o ⊢; omega)
 have q : (((z :: b).length : Int) < (((z :: b).length + 1 : Nat) : Int)) = True:=by first | (simp; done) | (simp; omega)
 have g : ((((X : Int) :: z :: b).reverse ++ a).map zn)[(z :: b).length]? = some [.f (.lit (.int .i64 (X : Int)))]:=by
  apply znt;simp
 have w : (((X : Int) :: z :: b).reverse ++ a).take ((z :: b).length + 1) = ((X : Int) :: z :: b).reverse:=yx (by simp);have r : 0 < d.out.length + 1 ∧ d.out.length + 1 ≤ LIM:=⟨by omega,by unfold LIM; omega⟩
 have eo : (d.out.map zn).take d.out.length ++ [[C.f (.lit (.int .i64 (X : Int)))]] = (d.out ++ [(X : Int)]).map zn:=by
  rw [yo (by simp),yy];rfl
 generalize hrow : ((X : Int) :: z :: b).reverse ++ a = row at *;rw [c] at h;have e : (z :: b).reverse ++ ((X : Int) :: a) = row:=by rw [← hrow]; simp
 have m : (b.length ≤ b.length + 1) = True:=by simp
 have x : ((0 : Int) < ((b.length + 1 : Nat) : Int)) = True:=by first | (simp; done) | (simp; omega)
 rw [e];simp -implicitDefEqProofs only [go_sem,stO,obG] at h hw q g;simp -implicitDefEqProofs only [go_sem,zks,zt,Code.p2,stO,obG,hw,q,yg,ya,g,h,r,eo,x,m,Nat.sub_zero]
theorem zFk : ∀ (k : Nat) (d : DF) (a : List Int) (n vs : Nat) (o : List Int) (a0 a1 a3 a8 a9 m f i g : V),DInv succ d → d.stk.length + k ≤ 4294967296 → d.out.length + k ≤ 4294967296 → dfs succ k d = some o →
  ∃ seen' next' vo' vs' row',exec T (.sc zt ziD) ⟨[a0,a1,.one (.ptr 0 0 0 0),a3,.one (.ptr 1 0 0 0),.one (.ptr 2 0 0 0),.one (.own 3 n 0 d.out.length),.one (.own 4 vs 0 d.stk.length),a8,a9,m,f,i,g],stO succ pred d.seen d.next n d.out vs (d.stk.reverse ++ a),0,0⟩ =
    some (.ret,⟨[vU,vU,vU,.one (.own 3 vo' 0 o.length),vU,vU,vU,vU,vU,vU,vU,vU,vU,vU],stO succ pred seen' next' vo' o.reverse vs' row',0,0⟩):=by
 intro k
 induction k with
 | zero => intro d a n vs o _ _ _ _ _ _ _ _ _ _ _ _ h; simp [dfs] at h
 | succ k ih =>
   intro d a n vs o a0 a1 a3 a8 a9 m f i g hd p H h;simp only [dfs] at h
   cases c : d.stk with
   | nil => rw [c] at h; cases h
   | cons x s =>
     rw [c] at h p;simp only at h;simp only [yb] at p;obtain ⟨B,C⟩:=hd.stk x (by rw [c]; simp);obtain ⟨X,rfl⟩ : ∃ X : Nat,x = X:=⟨x.toNat,by omega⟩;have t : X < succ.length:=(by omega);have l : succ.getD X [] = succ[X]:=(by simp [t]);have u : zxT succ (X : Int) = succ[X].length:=by unfold zxT; rw [ya,l]
     cases b : zg0 succ d (X : Int) with
     | some yj =>
       obtain ⟨y,j⟩:=yj;rw [b] at h;simp only [ya] at h;have q:=b;unfold zg0 at q;rw [ya,l] at q;obtain ⟨I,E,G⟩:=zBf q;have hle:=hd.le X t;rw [l] at hle;have D:=hr _ (yq t) y (List.mem_of_mem_drop G)
       have r : DInv succ ⟨d.seen.set y.toNat true,d.next.set X j,d.out,y :: (X : Int) :: s⟩:=⟨by simpa using hd.seen,by simpa using hd.next,by
         have:=zwL succ hn hs hr hd ⟨B,C⟩ (j:=j) (by rw [ya,l]; rw [List.length_drop] at E; omega)
         rwa [ya] at this,fun z v => by
        rcases yv.1 v with rfl | v
        ·exact D
        ·exact hd.stk z (by rw [c]; exact v)⟩
       obtain ⟨seen',next',vo',vs',row',A⟩:=ih _ [] n (vs + 1) o vU vU vU vU vU vU vU vU vU r (by simp only [yb]; omega) (by simp only; omega) h;refine ⟨seen',next',vo',vs',row',?_⟩;rw [← A,zfl,zrG,zfP,zfC];simp only [yn,zrr];have e:=zyM succ pred hn hs hr d a n vs X s y j a0 a1 a3 a8 a9 m f i g hd t (by omega) (by omega) b;simp only [yb] at e ⊢;rw [e];simp only [yn,scK,zi3];rw [← zrG]
     | none =>
       rw [b] at h;simp only at h
       cases s with
       | nil =>
         simp only [Option.some.injEq] at h;subst h;have e:=zBG succ pred hn hs hr d a n vs X a0 a1 a3 a8 a9 m f i g hd t (by simp) (by omega) b;refine ⟨d.seen,d.next.set X succ[X].length,n + 1,vs,(((X : Int) :: []).reverse ++ a),?_⟩;rw [zfl,zrG,zfP,zfC];simp only [yn,zrr];simp only [yb,yf] at e ⊢;rw [e];simp only [yn,scK];rw [show (d.out ++ [(X : Int)]).length = d.out.length + 1 by simp]
       | cons z s' =>
         simp only [ya] at h;have e:=zBL succ pred hn hs hr d a n vs X z s' a0 a1 a3 a8 a9 m f i g hd t (by simp only [yb] at p ⊢; omega) (by omega) b
         have r : DInv succ ⟨d.seen,d.next.set X (zxT succ X),d.out ++ [(X : Int)],z :: s'⟩:=⟨hd.seen,by simpa using hd.next,by
          have:=zwL succ hn hs hr hd ⟨B,C⟩ (j:=zxT succ X) (by rw [ya,l,u]; exact yI _)
          rwa [ya] at this,fun w hw => hd.stk w (by rw [c]; exact yk _ hw)⟩
         obtain ⟨seen',next',vo',vs',row',A⟩:=ih _ ((X : Int) :: a) (n + 1) vs o vU vU vU vU vU vU vU vU vU r (by simp only [yb] at p ⊢; omega) (by simp only [yl,yb,yf]; omega) h;refine ⟨seen',next',vo',vs',row',?_⟩;rw [← A,zfl,zrG,zfP,zfC];simp only [yn,zrr];simp only [yb,yl,yf,u] at e ⊢;rw [e];simp only [yn,scK,zi3];rw [← zrG]
end
end AC

/- A part of the proof of SchedFlat. Conditions: none. -/
import Derived.Test.YtmkncmffaaninaaGreatFBD
import Derived.Test.YtmkncmffaaninaaGreatFBF
import Derived.Test.YtmkncmffaaninaaGreatFBE
import Derived.Test.YtmkncmffaaninaaGreatFAW
set_option linter.all false
open Int renaming toNat_natCast → ya,natCast_nonneg → yg
open List renaming length_cons → yb,getElem?_eq_none → yc,getElem?_eq_getElem → yd,getD_eq_getElem?_getD → ye,length_nil → yf,ext_getElem? → yh,mem_cons_self → yi,mem_cons_of_mem → yk,length_append → yl,count_cons → ym,take_of_length_le → yo,getElem?_set → yp,getElem_mem → yq,length_reverse → yr,getElem?_eq_some_iff → ys,length_set → yt,getElem?_replicate → yu,mem_cons → yv,foldl_cons → yw,take_left' → yx,map_append → yy,getD_cons_zero → yz,map_set → yA,set_set → yK,map → yL
open Option renaming bind_some → yn,getD_some → yF
open Bool renaming not_eq_true' → yB,and_eq_true → yC,not_eq_true → yD
open Nat renaming mul_one → yE,add_zero → yG,zero_add → yH,le_refl → yI,zero_le → yJ
namespace AC
open Go Go.A Go.A.Lex
open Dm
inductive RW (succ : List (List Int)) (root w : Int) : Int → Prop
 | root : root ≠ w → RW succ root w root
 | step {p x : Int} : RW succ root w p → Eg succ p x → x ≠ w → RW succ root w x
def leB (a b : List Bool) : Prop:=∀ j : Nat,a.getD j false = true → b.getD j false = true
theorem leB.trans {a b c : List Bool} (h : leB a b) (k : leB b c) : leB a c:=fun j d => k j (h j d)
theorem zon (w : Int) : ∀ (l : List Int) (out : List Bool),leB out (l.foldl (mark w) out)
 | [],out => fun j h => h
 | y :: l,out => fun j h => by
   rw [yw];exact zon w l (mark w out y) j (ztq h)
theorem zvP (w : Int) : ∀ (l : List Int) (out : List Bool),(∀ y ∈ l,0 ≤ y ∧ y < (out.length : Int)) → ∀ y ∈ l,y ≠ w → (l.foldl (mark w) out).getD y.toNat false = true
 | [],_,_ => by simp
 | x :: l,out,hr => fun y b hw => by
   rw [yw];have a : ∀ z ∈ l,0 ≤ z ∧ z < ((mark w out x).length : Int):=fun z c => by rw [zlC]; exact hr z (yk _ c)
   rcases yv.1 b with rfl | b
   ·refine zon w l _ _ ?_
    have:=hr y yi;unfold mark;rw [if_neg hw,zbe _ _ (by omega)]
   ·exact zvP w l _ a y b hw
theorem zmh (w : Int) : ∀ (r : List (List Int)) (i : Nat) (out : List Bool),leB out (zjq w i r out)
 | [],_,_ => fun j h => h
 | l :: r,i,out => by
   rw [zjq];refine leB.trans ?_ (zmh w r (i + 1) _);split
   ·exact zon w l out
   ·exact fun j h => h
theorem zn2 (w : Int) (n : Nat) : ∀ (r : List (List Int)) (i : Nat) (out : List Bool),out.length = n → (∀ l ∈ r,∀ y ∈ l,0 ≤ y ∧ y < (n : Int)) → leB (zjq w i r out) out →
  ∀ (j : Nat) (l : List Int),r[j]? = some l → out.getD (i + j) false = true → ∀ y ∈ l,y ≠ w → out.getD y.toNat false = true
 | [],_,_,_,_,_ => by simp
 | l :: r,i,out,ho,hr,hle => by
   intro j q e c y f hw;rw [zjq] at hle;obtain ⟨b,a⟩ : ∃ b,b = (if out.getD i false = true then l.foldl (mark w) out else out):=⟨_,rfl⟩;rw [← a] at hle
   have h1 : leB out b:=by
    rw [a];split
    ·exact zon w l out
    ·exact fun j h => h
   have h2 : leB b out:=leB.trans (zmh w r (i + 1) b) hle
   have d : b.length = n:=by
    rw [a];split
    ·rw [zhI]; exact ho
    ·exact ho
   cases j with
   | zero =>
     simp only [List.getElem?_cons_zero,Option.some.injEq] at e;subst e;rw [yG] at c;refine h2 _ ?_;rw [a,if_pos c];exact zvP w l out (fun z g => by rw [ho]; exact hr l yi z g) y f hw
   | succ j =>
     have:=zn2 w n r (i + 1) b d (fun l k => hr l (yk _ k)) (leB.trans hle h1) j q (by simpa using e) (by rw [show i + 1 + j = i + (j + 1) by omega]; exact h1 _ c) y f hw;exact h2 _ this
theorem count_le : ∀ (a b : List Bool),a.length = b.length → leB a b → a.count true ≤ b.count true ∧ ((∃ j,b.getD j false = true ∧ a.getD j false = false) → a.count true < b.count true)
 | [],b,h,_ => by
   have : b = []:=List.eq_nil_of_length_eq_zero (by simpa using h.symm);subst this;simp
 | x :: a,[],h,_ => by simp at h
 | x :: a,y :: b,h,hle => by
   have c : leB a b:=fun j d => by
    have:=hle (j + 1) (by simpa using d);simpa using this
   have h0:=hle 0;simp only [yz] at h0;obtain ⟨i1,i2⟩:=count_le a b (by simpa using h) c;constructor
   ·rw [ym,ym]
    cases x <;> cases y <;> simp at h0 ⊢ <;> omega
   ·rintro ⟨j,h1,h2⟩
    cases j with
    | zero =>
      simp only [yz] at h1 h2;subst h1 h2;rw [ym,ym];simp;omega
    | succ j =>
      have:=i2 ⟨j,by simpa using h1,by simpa using h2⟩;rw [ym,ym];cases x <;> cases y <;> simp at h0 ⊢ <;> omega
theorem zEL {a b : List Bool} (d : a.length = b.length) (h : leB a b) (k : leB b a) : a = b:=by
 apply yh;intro j
 by_cases c : j < a.length
 ·have cb : j < b.length:=by omega
  have e1 : a.getD j false = a[j]:=by rw [ye,yd c]; rfl
  have e2 : b.getD j false = b[j]:=by rw [ye,yd cb]; rfl
  have h1:=h j;have h2:=k j;rw [e1,e2] at h1 h2;rw [yd c,yd cb]
  congr 1
  cases ha : a[j] <;> cases hb : b[j] <;> simp_all
 ·rw [yc (by omega),yc (by omega)]
section
variable {succ : List (List Int)} (hr : ∀ l ∈ succ,∀ y ∈ l,0 ≤ y ∧ y < (succ.length : Int)) (root w : Int)
def zhJ (succ : List (List Int)) (w : Int) (out : List Bool) : Prop:=∀ (j : Nat) (l : List Int),succ[j]? = some l → out.getD j false = true → ∀ y ∈ l,y ≠ w → out.getD y.toNat false = true
include hr
theorem zmE : ∀ (r : Nat) (out : List Bool),out.length = succ.length → zhJ succ w (zeX w succ r out) ∨ out.count true + r ≤ (zeX w succ r out).count true
 | 0,out,_ => .inr (yI _)
 | r + 1,out,ho => by
   rw [zeX];have b:=zhm w succ 0 out
   by_cases c : leB (zjq w 0 succ out) out
   ·have e:=zEL b c (zmh w succ 0 out)
    have f : zhJ succ w out:=fun j l h1 h2 => zn2 w succ.length succ 0 out ho hr c j l h1 (by rw [yH]; exact h2)
    have st : ∀ k,zeX w succ k out = out:=by
     intro k
     induction k with
     | zero => rfl
     | succ k ih => rw [zeX,e,ih]
    left;rw [e,st];exact f
   ·have d : out.count true < (zjq w 0 succ out).count true:=by
     refine (count_le out _ b.symm (zmh w succ 0 out)).2 ?_;have hex : ∃ j,¬ ((zjq w 0 succ out).getD j false = true → out.getD j false = true):=Classical.not_forall.1 c;obtain ⟨j,g⟩:=hex;have a:=Classical.not_imp.1 g;exact ⟨j,a.1,by simpa using a.2⟩
    rcases zmE r (zjq w 0 succ out) (by rw [b]; exact ho) with h | h
    ·exact .inl h
    ·right; omega
theorem zxn {out : List Bool} (P : Int → Prop) (h : ∀ j : Nat,out.getD j false = true → P (j : Int)) {y : Int} (h0 : 0 ≤ y) (b : y ≠ w → P y) : ∀ j : Nat,(mark w out y).getD j false = true → P (j : Int):=by
 intro j a;unfold mark at a;split at a
 ·exact h j a
 ·rename_i c
  by_cases e : y.toNat = j
  ·rw [show (j : Int) = y by omega]
   exact b c
  ·rw [getD_set_ne _ _ e] at a
   exact h j a
theorem zpZ (P : Int → Prop) : ∀ (l : List Int) (out : List Bool),(∀ j : Nat,out.getD j false = true → P (j : Int)) → (∀ y ∈ l,0 ≤ y ∧ (y ≠ w → P y)) → ∀ j : Nat,(l.foldl (mark w) out).getD j false = true → P (j : Int)
 | [],_,h,_ => h
 | y :: l,out,h,hl => by
   rw [yw];exact zpZ P l _ (zxn hr w P h (hl y yi).1 (hl y yi).2) fun z a => hl z (yk _ a)
theorem zps (P : Int → Prop) (d : ∀ p x,P p → Eg succ p x → x ≠ w → P x) : ∀ (r : List (List Int)) (i : Nat) (out : List Bool),(∀ j l,r[j]? = some l → succ[i + j]? = some l) → (∀ j : Nat,out.getD j false = true → P (j : Int)) → ∀ j : Nat,(zjq w i r out).getD j false = true → P (j : Int)
 | [],_,_,_,h => h
 | l :: r,i,out,hs,h => by
   rw [zjq];refine zps P d r (i + 1) _ (fun j q f => ?_) ?_
   ·have:=hs (j + 1) q (by simpa using f)
    rwa [show i + (j + 1) = i + 1 + j by omega] at this
   ·split
    ·rename_i c
     have a:=hs 0 l rfl;rw [yG] at a;have b:=List.mem_of_getElem? a;have g:=(ys.1 a).1;refine zpZ hr w P l out h fun y e => ⟨(hr l b y e).1,fun hw => d (i : Int) y (h i c) ⟨by omega,by omega,?_⟩ hw⟩;rw [ya,ye,a];exact e
    ·exact h
theorem zn0 (P : Int → Prop) (a : ∀ p x,P p → Eg succ p x → x ≠ w → P x) : ∀ (r : Nat) (out : List Bool),(∀ j : Nat,out.getD j false = true → P (j : Int)) → ∀ j : Nat,(zeX w succ r out).getD j false = true → P (j : Int)
 | 0,_,h => h
 | r + 1,out,h => by
   rw [zeX];exact zn0 P a r _ (zps hr w P a succ 0 out (fun j l b => by rw [yH]; exact b) h)
theorem ztQ : ∀ (r : Nat) (out : List Bool),leB out (zeX w succ r out)
 | 0,_ => fun j h => h
 | r + 1,out => by
   rw [zeX];exact leB.trans (zmh w succ 0 out) (ztQ r _)
theorem zs3 (h0 : 0 ≤ root ∧ root < (succ.length : Int)) (j : Nat) : (zdq succ root w).getD j false = true ↔ RW succ root w (j : Int):=by
 unfold zdq
 by_cases c : root = w
 ·rw [if_pos c]
  constructor
  ·intro h
   rw [ye,yu] at h;split at h <;> simp at h
  ·intro h
   exfalso
   have key : ∀ x,RW succ root w x → False:=fun x hx => by
    induction hx with
    | root h => exact h c
    | step _ _ _ ih => exact ih
   exact key _ h
 ·rw [if_neg c]
  obtain ⟨d,b⟩ : ∃ o,o = (List.replicate succ.length false).set root.toNat true:=⟨_,rfl⟩;have k : d.length = succ.length:=by rw [b]; simp
  have f : d.getD root.toNat false = true:=by rw [b,zbe _ _ (by simp; omega)]
  rw [← b];constructor
  ·refine zn0 hr w (RW succ root w) (fun p x hp e hx => .step hp e hx) succ.length d (fun i m => ?_) j
   rw [b] at m
   by_cases e : root.toNat = i
   ·rw [show (i : Int) = root by omega]
    exact .root c
   ·rw [getD_set_ne _ _ e,ye,yu] at m
    split at m <;> simp at m
  ·have n : zhJ succ w (zeX w succ succ.length d):=by
    rcases zmE hr w succ.length d k with h | h
    ·exact h
    ·exfalso
     have h1 : 1 ≤ d.count true:=by
      rw [b,List.count_set (by simp; omega)];simp
     have h2 : (zeX w succ succ.length d).count true ≤ succ.length:=by
      have:=List.count_le_length (a:=true) (l:=zeX w succ succ.length d);rw [zgI,k] at this;exact this
     omega
   have key : ∀ x,RW succ root w x → 0 ≤ x ∧ (zeX w succ succ.length d).getD x.toNat false = true:=fun x hx => by
    induction hx with
    | root _ => exact ⟨h0.1,ztQ hr w _ _ _ f⟩
    | step _ e hx ih =>
      rename_i p x _;have rx:=zwn hr e;refine ⟨rx.1,?_⟩;obtain ⟨e1,e2,e3⟩:=e;have g : p.toNat < succ.length:=(by omega);rw [ye,yd g] at e3;exact n p.toNat succ[p.toNat] (yd g) ih.2 x e3 hx
   intro h;have:=(key _ h).2
   rwa [ya] at this
omit hr in
theorem zCO (x : Int) : RW succ root w x ↔ ∃ l,Way (Eg succ) root x l ∧ w ∉ l:=by
 constructor
 ·intro h
  induction h with
  | root h => exact ⟨_,.root,by simpa using fun e => h e.symm⟩
  | step _ e hx ih =>
    obtain ⟨l,h1,h2⟩:=ih;refine ⟨_,.step h1 e,fun hm => ?_⟩;rcases yv.1 hm with h | h
    ·exact hx h.symm
    ·exact h2 h
 ·rintro ⟨l,h1,h2⟩
  induction h1 with
  | root => exact .root fun e => h2 (by rw [e]; exact yi)
  | step h e ih => exact .step (ih fun hm => h2 (yk _ hm)) e fun e => h2 (by rw [e]; exact yi)
end
section
variable {succ : List (List Int)} (hm : zbk succ = true) {root : Nat} {O : Int → Prop} {pos : Int → Nat} {t : List Int} (Q : TreeOf succ (root : Int) O pos t)
include hm Q
theorem zum (j : Nat) : (zdq succ (root : Int) (-1)).getD j false = true ↔ O (j : Int):=by
 obtain ⟨b,n64,hr⟩:=zez hm;rw [zs3 hr (root : Int) (-1) ⟨by omega,zng Q⟩,zCO,Q.rch];constructor
 ·rintro ⟨l,h,_⟩; exact ⟨l,h⟩
 ·rintro ⟨l,h⟩
  refine ⟨l,h,fun a => ?_⟩;have:=Q.rng _ ((zwh Q.ord h).2 _ a);omega
theorem zlx (c b : Nat) : ovB succ (root : Int) c b = true ↔ O (b : Int) ∧ Dom (Eg succ) (root : Int) (c : Int) (b : Int):=by
 obtain ⟨d,n64,hr⟩:=zez hm;unfold ovB;rw [yC,zum hm Q,yB,← yD,zs3 hr (root : Int) (c : Int) ⟨by omega,zng Q⟩,zCO];constructor
 ·rintro ⟨h1,h2⟩
  refine ⟨h1,fun l w => ?_⟩
  by_cases a : (c : Int) ∈ l
  ·exact a
  ·exact absurd ⟨l,w,a⟩ h2
 ·rintro ⟨h1,h2⟩
  exact ⟨h1,fun ⟨l,w,a⟩ => a (h2 l w)⟩
theorem zsb (b a : Nat) : ∀ (d k : Nat),ze6 succ (root : Int) b a k d = true ↔ ∀ c,k ≤ c → c < k + d → c = b ∨ ¬ ovB succ (root : Int) c b = true ∨ ovB succ (root : Int) c a = true
 | 0,k => by simp [ze6]; omega
 | d + 1,k => by
   rw [ze6,yC,zsb b a d (k + 1)];simp only [Bool.or_eq_true,decide_eq_true_eq,yB,yD];constructor
   ·rintro ⟨h1,h2⟩ c g f
    by_cases e : c = k
    ·subst e; exact h1
    ·exact h2 c (by omega) (by omega)
   ·intro h
    exact ⟨h k (by omega) (by omega),fun c g f => h c (by omega) (by omega)⟩
omit hm Q in
theorem zo9 (b : Nat) : ∀ (d k : Nat) (v : Int),(∀ c,k ≤ c → c < k + d → ¬ (c ≠ b ∧ ovB succ (root : Int) c b = true ∧ ze6 succ (root : Int) b c 0 succ.length = true)) → zf2 succ (root : Int) b k d v = v
 | 0,_,_,_ => rfl
 | d + 1,k,v,h => by
   have h0:=h k (by omega) (by omega);rw [zf2,if_neg,zo9 b d (k + 1) v fun c h1 h2 => h c (by omega) (by omega)];simpa using h0
omit hm Q in
theorem zwi (b k0 : Nat) : ∀ (d k : Nat) (v : Int),k ≤ k0 → k0 < k + d → (k0 ≠ b ∧ ovB succ (root : Int) k0 b = true ∧ ze6 succ (root : Int) b k0 0 succ.length = true) →
  (∀ c,k ≤ c → c < k + d → c ≠ k0 → ¬ (c ≠ b ∧ ovB succ (root : Int) c b = true ∧ ze6 succ (root : Int) b c 0 succ.length = true)) → zf2 succ (root : Int) b k d v = (k0 : Int)
 | 0,k,v,h1,h2,_,_ => by omega
 | d + 1,k,v,h1,h2,hp,hu => by
   rw [zf2]
   by_cases e : k = k0
   ·subst e
    rw [if_pos (by simpa using hp)];exact zo9 b d (k + 1) _ fun c h3 h4 => hu c (by omega) (by omega) (by omega)
   ·exact zwi b k0 d (k + 1) _ (by omega) (by omega) hp fun c h3 h4 => hu c (by omega) (by omega)
theorem zy6 : zeU succ (root : Int) = t.set root (-1):=by
 obtain ⟨x,n64,hr⟩:=zez hm;apply yh;intro b
 by_cases hb : b < succ.length
 ·have v:=zk7 Q
  have g : b < (t.set root (-1)).length:=by omega
  rw [zeU,List.getElem?_map,List.getElem?_range hb,yd g];simp only [Option.map_some]
  congr 1
  have e : (t.set root (-1))[b] = tr (t.set root (-1)) (b : Int):=by
   unfold tr;rw [ya,ye,yd g];rfl
  rw [e];unfold zry
  by_cases c : (b : Int) = (root : Int)
  ·rw [if_pos c,zpe Q (by omega),if_pos c]
  ·rw [if_neg c]
   by_cases f : O (b : Int)
   ·obtain ⟨h1,h2,h3,h4⟩:=zty Q f c
    have rp:=Q.rng _ h2;obtain ⟨p,hp⟩ : ∃ p : Nat,(p : Int) = tf t (b : Int):=⟨(tf t (b : Int)).toNat,by omega⟩;rw [h1,← hp];rw [← hp] at h2 h3 rp;have a : Dom (Eg succ) (root : Int) (p : Int) (b : Int):=(zvb Q.ord Q.inv Q.st f).1 (.step c (by rw [← hp]; exact .refl _))
    have n : ∀ d,Dom (Eg succ) (root : Int) d (b : Int) → d ≠ (b : Int) → Dom (Eg succ) (root : Int) d (p : Int):=fun d r u => by
     have:=Q.inv.A (b : Int) d c (zGn Q f) r u
     rwa [← hp] at this
    have hpb : p ≠ b:=fun e => by rw [e] at h3; omega
    refine zwi b p succ.length 0 (-2) (yJ _) (by omega) ⟨hpb,(zlx hm Q p b).2 ⟨f,a⟩,?_⟩ fun k _ q i => ?_
    ·rw [zsb hm Q]
     intro k _ q
     by_cases e1 : k = b
     ·exact .inl e1
     ·by_cases e2 : ovB succ (root : Int) k b = true
      ·exact .inr (.inr ((zlx hm Q k p).2 ⟨h2,n _ ((zlx hm Q k b).1 e2).2 (by omega)⟩))
      ·exact .inr (.inl e2)
    ·rintro ⟨w,s,o⟩
     rw [zsb hm Q] at o;have j:=((zlx hm Q k b).1 s).2;rcases o p (yJ _) (by omega) with e1 | e1 | e1
     ·exact hpb e1
     ·exact e1 ((zlx hm Q p b).2 ⟨f,a⟩)
     ·obtain ⟨ok,m⟩:=(zlx hm Q p k).1 e1
      have l:=n _ j (by omega);rcases zsC Q.ord ok m with e2 | e2
      ·exact i (by omega)
      ·rcases zsC Q.ord h2 l with e3 | e3
       ·exact i (by omega)
       ·omega
   ·rw [zyy Q f (by omega)]
    refine zo9 b succ.length 0 (-2) fun k _ _ h => ?_;exact f ((zlx hm Q k b).1 h.2.1).1
 ·rw [yc (by simp [zeU]; omega),yc (by rw [zk7 Q]; omega)]
omit hm in
theorem zrp : ∀ (r : Nat) (acc : List Int) (a : Int),O a → pos a < r → ∃ ch,pathFrom (t.set root (-1)) r acc a = acc ++ a :: ch ∧ ∀ x,x ∈ a :: ch ↔ Anc (root : Int) (tf t) x a:=by
 intro r
 induction r with
 | zero => intro acc a _ h; omega
 | succ r ih =>
   intro acc a ha h;have ra:=Q.rng a ha;rw [pathFrom,if_neg (by rw [zk7 Q]; omega)]
   by_cases c : a = (root : Int)
   ·rw [if_pos (by rw [zpe Q ra.1,if_pos c])]
    refine ⟨[],rfl,fun x => ?_⟩;rw [List.mem_singleton];constructor
    ·rintro rfl; exact .refl _
    ·intro hx
     by_cases e : x = a
     ·exact e
     ·exact absurd c (znH hx e).1
   ·obtain ⟨h1,h2,h3,h4⟩:=zty Q ha c
    rw [h1,if_neg h4];obtain ⟨ch,e1,e2⟩:=ih (acc ++ [a]) (tf t a) h2 (by omega);refine ⟨tf t a :: ch,by rw [e1]; simp,fun x => ?_⟩;rw [yv,e2 x];constructor
    ·rintro (rfl | hx)
     ·exact .refl _
     ·exact .step c hx
    ·intro hx
     by_cases e : x = a
     ·exact .inl e
     ·exact .inr (znH hx e).2
omit hm in
theorem zAA {a b : Int} (ha : O a) (hb : O b) : zmk (t.set root (-1)) a b = a ↔ zkR (t.set root (-1)) a b = true:=by
 rw [zvy Q];unfold zmk;rw [if_pos (zwm Q)];have hpa : pos a < (t.set root (-1)).length:=by rw [zk7 Q]; exact Q.low a ha
 have hpb : pos b < (t.set root (-1)).length:=by rw [zk7 Q]; exact Q.low b hb
 obtain ⟨ca,e1,e2⟩:=zrp Q _ [] a ha hpa;obtain ⟨cb,e3,e4⟩:=zrp Q _ [] b hb hpb;rw [List.nil_append] at e1 e3;have f1 : zie (t.set root (-1)) a = a :: ca:=e1;have f2 : zie (t.set root (-1)) b = b :: cb:=e3;rw [f1,f2,List.find?_cons]
 by_cases c : a ∈ b :: cb
 ·rw [decide_eq_true c]
  simp only [yF,true_iff];exact ⟨ha,hb,(e4 a).1 c⟩
 ·rw [decide_eq_false c]
  simp only;constructor
  ·intro h
   exfalso
   cases hf : ca.find? (fun x => decide (x ∈ b :: cb)) with
   | none =>
     rw [hf] at h;have:=(Q.rng a ha).1;simp at h;omega
   | some x =>
     rw [hf] at h;have:=List.find?_some hf;simp only [yF] at h;subst h;exact c (by simpa using this)
  ·rintro ⟨_,_,h⟩
   exact absurd ((e4 a).2 h) c
end
end AC
namespace AC
open Go Go.A Go.A.Lex
def rvK (l : List Int) (k : Nat) : List Int:=(List.range l.length).map fun j => if j < k ∨ l.length - k ≤ j then l.getD (l.length - 1 - j) 0 else l.getD j 0
theorem zim (l : List Int) (k : Nat) : (rvK l k).length = l.length:=by simp [rvK]
theorem zna (l : List Int) (k j : Nat) (h : j < l.length) : (rvK l k)[j]? = some (if j < k ∨ l.length - k ≤ j then l.getD (l.length - 1 - j) 0 else l.getD j 0):=by simp [rvK,h]
theorem zB4 (l : List Int) : rvK l 0 = l:=by
 apply yh;intro j
 by_cases h : j < l.length
 ·rw [zna l 0 j h,if_neg (by omega)]
  simp [h]
 ·rw [yc (by rw [zim]; omega),yc (by omega)]
theorem zEc (l : List Int) (k : Nat) (h : l.length ≤ 2 * k + 1) : rvK l k = l.reverse:=by
 apply yh;intro j
 by_cases a : j < l.length
 ·rw [zna l k j a,List.getElem?_reverse a]
  have b : l.length - 1 - j < l.length:=by omega
  by_cases c : j < k ∨ l.length - k ≤ j
  ·rw [if_pos c]
   simp [b]
  ·rw [if_neg c]
   have : l.length - 1 - j = j:=(by omega);rw [this];simp [a]
 ·rw [yc (by rw [zim]; omega),yc (by simp; omega)]
theorem zCn (l : List Int) (k : Nat) (h : 2 * k + 1 < l.length) : ((rvK l k).set k (l.getD (l.length - 1 - k) 0)).set (l.length - 1 - k) (l.getD k 0) = rvK l (k + 1):=by
 apply yh;intro j
 by_cases a : j < l.length
 ·rw [zna l (k + 1) j a,yp,yp,zna l k j a]
  simp only [yt,zim]
  by_cases c1 : l.length - 1 - k = j
  ·rw [if_pos c1,if_pos (by omega),if_pos (by omega)]
   have : l.length - 1 - j = k:=(by omega);rw [this]
  ·rw [if_neg c1]
   by_cases c2 : k = j
   ·rw [if_pos c2,if_pos (by omega),if_pos (by omega),c2]
   ·rw [if_neg c2]
    by_cases c3 : j < k ∨ l.length - k ≤ j
    ·rw [if_pos c3,if_pos (by omega)]
    ·rw [if_neg c3,if_neg (by omega)]
 ·rw [yc (by simp [zim]; omega),yc (by rw [zim]; omega)]
theorem zl1 {l : List Int} {j : Nat} {x : Int} (h : l[j]? = some x) : (l.map zl)[j]? = some [.f (.lit (.int .i64 x))]:=by simp [h,zl]
theorem zsM (σ : zd) (id a : Nat) (l : List Int) (t : l.length ≤ 4294967296) (g : id < σ.length) : ∀ (d k : Nat) (a3 : V),l.length - 2 * k ≤ d → 2 * k ≤ l.length →
  exec T zaL ⟨[.one (.own id a 0 l.length),vI k,vI ((l.length : Int) - 1 - k),a3],σ.set id (.cells a 1 ((rvK l k).map zl)),σ.length,σ.length⟩ =
   some (.exit 0,⟨[vU,vU,vU,vU],σ.set id (.cells a 1 (l.reverse.map zl)),σ.length,σ.length⟩):=by
 have b : ∀ k : Nat,¬ ((k : Int) < (l.length : Int) - 1 - k) → 2 * k ≤ l.length → ∀ (a3 : V),
  exec T zaL ⟨[.one (.own id a 0 l.length),vI k,vI ((l.length : Int) - 1 - k),a3],σ.set id (.cells a 1 ((rvK l k).map zl)),σ.length,σ.length⟩ =
   some (.exit 0,⟨[vU,vU,vU,vU],σ.set id (.cells a 1 (l.reverse.map zl)),σ.length,σ.length⟩):=by
  intro k e j a3;rw [xl zaL rfl,zd6,zEc l k (by omega)];simp -implicitDefEqProofs only [go_sem,e,yt]
 intro d
 induction d with
 | zero =>
   intro k a3 o i;exact b k (by omega) i _
 | succ d ih =>
   intro k a3 o i
   by_cases e : (k : Int) < (l.length : Int) - 1 - k
   ·have j : k < l.length:=by omega
    have h : l.length - 1 - k < l.length:=(by omega);have n:=zl1 (zna l k k j);have m:=zl1 (zna l k (l.length - 1 - k) h);rw [if_neg (by omega)] at n m;have e1 : ((l.length : Int) - 1 - k).toNat = l.length - 1 - k:=(by omega);have e2 : (0 : Int) ≤ (l.length : Int) - 1 - k:=(by omega);have e3 : ((l.length : Int) - 1 - k < (l.length : Int)) = True:=(by simp; omega);have q : Go.IntKind.i64.wrap ((k : Int) + 1) = ((k + 1 : Nat) : Int):=(by rw [wrap_i64] <;> omega);have p : Go.IntKind.i64.wrap ((l.length : Int) - 1 - k - 1) = (l.length : Int) - 1 - ((k + 1 : Nat) : Int):=(by rw [wrap_i64] <;> omega);have s : ((l.map zl).length) = l.length:=(by simp);have st:=congrArg (yL zl) (zCn l k (by omega));rw [yA,yA] at st;have:=ih (k + 1) vU (by omega) (by omega);rw [← st] at this;have r : ¬ l.length - 1 - k = k:=by omega
    have c : ((yL zl (rvK l k)).set k (zl (l.getD (l.length - 1 - k) 0)))[l.length - 1 - k]? = some [.f (.lit (.int .i64 (l.getD (l.length - 1 - k) 0)))]:=by
     rw [List.getElem?_set_ne (by omega)];exact m
    rw [xl zaL rfl,zd6];simp -implicitDefEqProofs only [go_sem,zl] at this c;simp -implicitDefEqProofs only [go_sem,e,e1,e2,e3,ilt j,yg,ya,List.getElem?_set_self g,n,m,c,yK,yt,q,p,this]
   ·exact b k e i _
theorem ztz (σ : zd) (id a : Nat) (l : List Int) (g : l.length ≤ 4294967296) (c : σ[id]? = some (.cells a 1 (l.map zl))) (n : Nat) (f : n = l.length) :
  call T 149 [.one (.own id a 0 n)] σ = some (.tup [],σ.set id (.cells a 1 (l.reverse.map zl))):=by
 subst f;rw [ze (fn:=zeP) rfl];have b : id < σ.length:=(ys.1 c).1;have h:=fun a3 => zsM σ id a l g b l.length 0 a3 (by omega) (by omega)
 have d : σ.set id (.cells a 1 (l.map zl)) = σ:=by
  apply yh;intro j;rw [yp]
  by_cases e : id = j
  ·subst e; rw [if_pos rfl,if_pos b,c]
  ·rw [if_neg e]
 rw [zB4,d] at h;simp only [Int.natCast_zero,Int.sub_zero] at h;have w : Go.IntKind.i64.wrap ((l.length : Int) - 1) = (l.length : Int) - 1:=by rw [wrap_i64] <;> omega
 simp -implicitDefEqProofs only [go_sem] at h;simp -implicitDefEqProofs only [go_sem,zeP,w,h,yt]
theorem n64 : ((64 : Nat) : Int) = 64:=rfl
attribute [go_sem] n64
def cB (b : Bool) : C:=.f (.lit (.bool b))
def cN (n : Nat) : C:=.f (.lit (.int .i64 n))
section
variable (succ pred : List (List Int)) (hn : succ.length ≤ 64) (hs : ∀ l ∈ succ,l.length ≤ 4294967296) (hr : ∀ l ∈ succ,∀ y ∈ l,0 ≤ y ∧ y < (succ.length : Int))
abbrev obG : Ob:=.cells 0 2 [[.f (.sl (succ.map rl)),.f (.sl (pred.map rl))]]
abbrev stO (seen : List Bool) (next : List Nat) (vo : Nat) (out : List Int) (vs : Nat) (row : List Int) : zd :=
 [obG succ pred,.cells 0 64 [seen.map cB],.cells 0 64 [next.map cN],.cells vo 1 (out.map zl),.cells vs 1 (row.map zl)]
include hn hs hr
theorem zuQ (X : Nat) (D : X < succ.length) (seen : List Bool) (H : seen.length = 64) (u : Nat) (out : List Int) (vs : Nat) (row : List Int) (m : Nat) (hm : m ≤ row.length) (N : m + 1 ≤ 4294967296) : ∀ (d a : Nat) (next : List Nat) (a0 a1 a3 a9 o s t n : V),next.length = 64 → next[X]? = some a → succ[X].length - a = d → a ≤ succ[X].length →
  exec T zf5 ⟨[a0,a1,.one (.ptr 0 0 0 0),a3,.one (.ptr 1 0 0 0),.one (.ptr 2 0 0 0),.one (.own 3 u 0 out.length),.one (.own 4 vs 0 m),vI X,a9,o,s,t,n],stO succ pred seen next u out vs row,0,0⟩ =
   some (match scan seen (succ[X].drop a) a with
    | none => (.exit 0,⟨[vU,vU,.one (.ptr 0 0 0 0),vU,.one (.ptr 1 0 0 0),.one (.ptr 2 0 0 0),.one (.own 3 u 0 out.length),.one (.own 4 vs 0 m),vI X,vU,vU,vU,vU,vU],stO succ pred seen (next.set X succ[X].length) u out vs row,0,0⟩)
    | some (y,j) => (.goto 0,⟨[vU,vU,.one (.ptr 0 0 0 0),vU,.one (.ptr 1 0 0 0),.one (.ptr 2 0 0 0),.one (.own 3 u 0 out.length),.one (.own 4 (vs + 1) 0 (m + 1)),vU,vU,vU,vU,vU,vU],stO succ pred (seen.set y.toNat true) (next.set X j) u out (vs + 1) (row.take m ++ [y]),0,0⟩)):=by
 intro d;have l : X < 64:=by omega
 have q : ((X : Int) < 64) = True:=by simp; omega
 have I:=hs _ (yq D)
 induction d with
 | zero =>
   intro a next a0 a1 a3 a9 o s t n c b M L
   have i : a = succ[X].length:=(by omega);subst i;have G : (next.map cN)[X]? = some (cN succ[X].length):=by simp [b]
   have v : next.set X succ[X].length = next:=by
    apply yh;intro j;rw [yp]
    by_cases e : X = j
    ·subst e; rw [if_pos rfl,if_pos (by omega),b]
    ·rw [if_neg e]
   rw [xl zf5 rfl,zh2,v];simp -implicitDefEqProofs only [go_sem,stO,obG,zm D,rl,q,yg,ya,yE,G,cN,Int.lt_irrefl,List.drop_length,scan]
 | succ d ih =>
   intro a next a0 a1 a3 a9 o s t n c b M L
   have i : a < succ[X].length:=(by omega);have hd : succ[X].drop a = succ[X][a] :: succ[X].drop (a + 1):=List.drop_eq_getElem_cons i;obtain ⟨P,O⟩:=hr _ (yq D) _ (yq i);have A : (succ[X].map ri)[a]? = some (ri succ[X][a]):=zm i;generalize succ[X][a] = y at *;obtain ⟨Y,rfl⟩ : ∃ Y : Nat,y = Y:=⟨y.toNat,by omega⟩;have K : Y < 64:=(by omega);have x : ((Y : Int) < 64) = True:=(by simp; omega);have G : (next.map cN)[X]? = some (cN a):=(by simp [b]);have r:=zva (e:=next.map cN) (k:=X) (.f (.lit (.int .i64 ((a + 1 : Nat) : Int)))) (by simp; omega);have J : C.f (.lit (.int .i64 ((a + 1 : Nat) : Int))) = cN (a + 1):=rfl;have E : (next.map cN).set X (C.f (.lit (.int .i64 ((a + 1 : Nat) : Int)))) = (next.set X (a + 1)).map cN:=(by rw [J,yA]);rw [E] at r;have hle:=zzR (show X < next.length by omega)
   have g : (seen.map cB)[Y]? = some (cB (seen.getD Y false)):=by
    have : Y < seen.length:=(by omega);simp [this]
   have h:=zva (e:=seen.map cB) (k:=Y) (.f (.lit (.bool true))) (by simp; omega);have p : (seen.map cB).set Y (C.f (.lit (.bool true))) = (seen.set Y true).map cB:=(by rw [yA]; rfl);rw [p] at h;have B:=zzR (show Y < seen.length by omega);have hw : Go.IntKind.i64.wrap ((a : Int) + 1) = ((a + 1 : Nat) : Int):=za i I;have w : ((next.set X (a + 1)).map cN)[X]? = some (cN (a + 1)):=(by simp [c,l]);have z : 0 < m + 1 ∧ m + 1 ≤ LIM:=⟨by omega,by unfold LIM; omega⟩;rw [xl zf5 rfl,zh2,hd,scan];rw [ya];cases e : seen.getD Y false
   ·rw [e] at g
    have er : (row.map zl).take m ++ [[C.f (.lit (.int .i64 (Y : Int)))]] = (row.take m ++ [(Y : Int)]).map zl:=(by simp [zl,List.map_take]);simp -implicitDefEqProofs only [go_sem,stO,obG,zm D,rl,q,yg,ya,yE,G,cN,ilt i,A,ri,x,hw,r,hle,w,g,cB,h,B,z,er]
   ·rw [e] at g
    have:=ih (a + 1) (next.set X (a + 1)) vU vU vU vU vU vU vU vU (by simpa using c) (by simp [c,l]) (by omega) (by omega);simp -implicitDefEqProofs only [go_sem,stO,obG,yK] at this;simp -implicitDefEqProofs only [go_sem,stO,obG,zm D,rl,q,yg,ya,yE,G,cN,ilt i,A,ri,x,hw,r,hle,w,g,cB,this]
end
attribute [go_sem] Option.any_some
def zjy : Go.A.Code:=zr.p2.p2.p2.p2.p2.p2.p2
theorem zqY : zhM = .seq .skip zjy:=rfl
section
variable (succ pred : List (List Int)) (hn : succ.length ≤ 64) (hs : ∀ l ∈ succ,l.length ≤ 4294967296) (hr : ∀ l ∈ succ,∀ y ∈ l,0 ≤ y ∧ y < (succ.length : Int))
include hn hs hr
theorem zvZ {d : DF} (hd : DInv succ d) {x : Int} (f : 0 ≤ x ∧ x < (succ.length : Int)) {j : Nat} (c : j ≤ (succ.getD x.toNat []).length) : ∀ X,X < succ.length → (d.next.set x.toNat j).getD X 0 ≤ (succ.getD X []).length:=by
 intro X b;have a:=hd.next
 by_cases e : x.toNat = X
 ·subst e
  rw [zbe _ _ (by omega)];exact c
 ·rw [getD_set_ne _ _ e]
  exact hd.le X b
theorem zxF (d : DF) (a : List Int) (o vs : Nat) (X : Nat) (s : List Int) (y : Int) (j : Nat) (a0 a1 a3 a8 a9 g k l c : V) (hd : DInv succ d) (u : X < succ.length) (n : s.length + 2 ≤ 4294967296) (z : d.out.length + 1 ≤ 4294967296) (b : zf9 succ d X = some (y,j)) :
  exec T zjy ⟨[a0,a1,.one (.ptr 0 0 0 0),a3,.one (.ptr 1 0 0 0),.one (.ptr 2 0 0 0),.one (.own 3 o 0 d.out.length),.one (.own 4 vs 0 (s.length + 1)),a8,a9,g,k,l,c],stO succ pred d.seen d.next o d.out vs (((X : Int) :: s).reverse ++ a),0,0⟩ =
   some (.goto 0,⟨[vU,vU,.one (.ptr 0 0 0 0),vU,.one (.ptr 1 0 0 0),.one (.ptr 2 0 0 0),.one (.own 3 o 0 d.out.length),.one (.own 4 (vs + 1) 0 (s.length + 2)),vU,vU,vU,vU,vU,vU],stO succ pred (d.seen.set y.toNat true) (d.next.set X j) o d.out (vs + 1) ((y :: (X : Int) :: s).reverse ++ []),0,0⟩):=by
 have r:=hd.next;have m : succ.getD X [] = succ[X]:=by simp [u]
 have q : d.next[X]? = some (d.next.getD X 0):=by
  have : X < d.next.length:=by omega
  simp [this]
 have hle:=hd.le X u;rw [m] at hle;have i:=fun a0 a1 a3 a9 g k l c => zuQ succ pred hn hs hr X u d.seen hd.seen o d.out vs (((X : Int) :: s).reverse ++ a) (s.length + 1) (by simp only [yl,yr,yb,yf]; omega) (by first | omega | (simp only [yb,yf] at n ⊢; omega)) _ (d.next.getD X 0) d.next a0 a1 a3 a9 g k l c r q rfl hle
 have v : zf9 succ d (X : Int) = scan d.seen (succ[X].drop (d.next.getD X 0)) (d.next.getD X 0):=by
  unfold zf9;rw [ya,m]
 rw [v] at b
 have hw : Go.IntKind.i64.wrap (((s.length + 1 : Nat) : Int) - 1) = (s.length : Int):=by rw [wrap_i64] <;> first | omega | (simp only [yb,yf] at n ⊢; omega)
 have t : ((s.length : Int) < ((s.length + 1 : Nat) : Int)) = True:=by first | (simp; done) | (simp; omega)
 have h : ((((X : Int) :: s).reverse ++ a).map zl)[s.length]? = some [.f (.lit (.int .i64 (X : Int)))]:=by
  apply zl1;simp
 have p : (((X : Int) :: s).reverse ++ a).take (s.length + 1) = ((X : Int) :: s).reverse:=yx (by simp);have w : 0 < d.out.length + 1 ∧ d.out.length + 1 ≤ LIM:=⟨by omega,by unfold LIM; omega⟩
 have eo : (d.out.map zl).take d.out.length ++ [[C.f (.lit (.int .i64 (X : Int)))]] = (d.out ++ [(X : Int)]).map zl:=by
  rw [yo (by simp),yy];rfl
 generalize hrow : ((X : Int) :: s).reverse ++ a = row at *;rw [b] at i;have e : (y :: (X : Int) :: s).reverse ++ [] = row.take (s.length + 1) ++ [y]:=by rw [p]; simp
 have x : 0 < s.length + 2 ∧ s.length + 2 ≤ LIM:=⟨by omega,by unfold LIM; omega⟩;rw [e];simp -implicitDefEqProofs only [go_sem,stO,obG] at i;simp -implicitDefEqProofs only [go_sem,zjy,zr,Code.p2,stO,obG,hw,t,yg,ya,h,i]
theorem zyY (d : DF) (a : List Int) (k vs : Nat) (X : Nat)  (a0 a1 a3 a8 a9 g i j e : V) (hd : DInv succ d) (s : X < succ.length) (p : ([] : List Int).length + 2 ≤ 4294967296) (v : d.out.length + 1 ≤ 4294967296) (b : zf9 succ d X = none) :
  exec T zjy ⟨[a0,a1,.one (.ptr 0 0 0 0),a3,.one (.ptr 1 0 0 0),.one (.ptr 2 0 0 0),.one (.own 3 k 0 d.out.length),.one (.own 4 vs 0 (([] : List Int).length + 1)),a8,a9,g,i,j,e],stO succ pred d.seen d.next k d.out vs (((X : Int) :: ([] : List Int)).reverse ++ a),0,0⟩ =
   some (.ret,⟨[vU,vU,vU,.one (.own 3 (k + 1) 0 (d.out.length + 1)),vU,vU,vU,vU,vU,vU,vU,vU,vU,vU],stO succ pred d.seen (d.next.set X succ[X].length) (k + 1) (d.out ++ [(X : Int)]).reverse vs (((X : Int) :: []).reverse ++ a),0,0⟩):=by
 have r:=hd.next;have n : succ.getD X [] = succ[X]:=by simp [s]
 have q : d.next[X]? = some (d.next.getD X 0):=by
  have : X < d.next.length:=by omega
  simp [this]
 have hle:=hd.le X s;rw [n] at hle;have h:=fun a0 a1 a3 a9 g i j e => zuQ succ pred hn hs hr X s d.seen hd.seen k d.out vs (((X : Int) :: ([] : List Int)).reverse ++ a) (([] : List Int).length + 1) (by simp only [yl,yr,yb,yf]; omega) (by first | omega | (simp only [yb,yf] at p ⊢; omega)) _ (d.next.getD X 0) d.next a0 a1 a3 a9 g i j e r q rfl hle
 have t : zf9 succ d (X : Int) = scan d.seen (succ[X].drop (d.next.getD X 0)) (d.next.getD X 0):=by
  unfold zf9;rw [ya,n]
 rw [t] at b
 have hw : Go.IntKind.i64.wrap (((([] : List Int).length + 1 : Nat) : Int) - 1) = (([] : List Int).length : Int):=by rw [wrap_i64] <;> first | omega | (simp only [yb,yf] at p ⊢; omega)
 have m : ((([] : List Int).length : Int) < ((([] : List Int).length + 1 : Nat) : Int)) = True:=by first | (simp; done) | (simp; omega)
 have c : ((((X : Int) :: ([] : List Int)).reverse ++ a).map zl)[([] : List Int).length]? = some [.f (.lit (.int .i64 (X : Int)))]:=by
  apply zl1;simp
 have u : (((X : Int) :: ([] : List Int)).reverse ++ a).take (([] : List Int).length + 1) = ((X : Int) :: ([] : List Int)).reverse:=yx (by simp);have o : 0 < d.out.length + 1 ∧ d.out.length + 1 ≤ LIM:=⟨by omega,by unfold LIM; omega⟩
 have eo : (d.out.map zl).take d.out.length ++ [[C.f (.lit (.int .i64 (X : Int)))]] = (d.out ++ [(X : Int)]).map zl:=by
  rw [yo (by simp),yy];rfl
 generalize hrow : ((X : Int) :: ([] : List Int)).reverse ++ a = row at *;rw [b] at h;have l:=ztz (stO succ pred d.seen (d.next.set X succ[X].length) (k + 1) (d.out ++ [(X : Int)]) vs row) 3 (k + 1) (d.out ++ [(X : Int)]) (by simp; omega) rfl (d.out.length + 1) (by simp);simp -implicitDefEqProofs only [go_sem,stO,obG] at h l hw m c;simp -implicitDefEqProofs only [go_sem,zjy,zr,Code.p2,stO,obG,hw,m,yg,ya,c,h,o,eo,l]
theorem zyI (d : DF) (a : List Int) (r vs : Nat) (X : Nat) (z : Int) (b : List Int) (a0 a1 a3 a8 a9 i k l h : V) (hd : DInv succ d) (u : X < succ.length) (q : (z :: b).length + 2 ≤ 4294967296) (x : d.out.length + 1 ≤ 4294967296) (c : zf9 succ d X = none) :
  exec T zjy ⟨[a0,a1,.one (.ptr 0 0 0 0),a3,.one (.ptr 1 0 0 0),.one (.ptr 2 0 0 0),.one (.own 3 r 0 d.out.length),.one (.own 4 vs 0 ((z :: b).length + 1)),a8,a9,i,k,l,h],stO succ pred d.seen d.next r d.out vs (((X : Int) :: (z :: b)).reverse ++ a),0,0⟩ =
   some (.goto 0,⟨[vU,vU,.one (.ptr 0 0 0 0),vU,.one (.ptr 1 0 0 0),.one (.ptr 2 0 0 0),.one (.own 3 (r + 1) 0 (d.out.length + 1)),.one (.own 4 vs 0 (b.length + 1)),vU,vU,vU,vU,vU,vU],stO succ pred d.seen (d.next.set X succ[X].length) (r + 1) (d.out ++ [(X : Int)]) vs ((z :: b).reverse ++ ((X : Int) :: a)),0,0⟩):=by
 have t:=hd.next;have o : succ.getD X [] = succ[X]:=by simp [u]
 have s : d.next[X]? = some (d.next.getD X 0):=by
  have : X < d.next.length:=by omega
  simp [this]
 have hle:=hd.le X u;rw [o] at hle;have j:=fun a0 a1 a3 a9 i k l h => zuQ succ pred hn hs hr X u d.seen hd.seen r d.out vs (((X : Int) :: z :: b).reverse ++ a) ((z :: b).length + 1) (by simp only [yl,yr,yb,yf]; omega) (by first | omega | (simp only [yb,yf] at q ⊢; omega)) _ (d.next.getD X 0) d.next a0 a1 a3 a9 i k l h t s rfl hle
 have v : zf9 succ d (X : Int) = scan d.seen (succ[X].drop (d.next.getD X 0)) (d.next.getD X 0):=by
  unfold zf9;rw [ya,o]
 rw [v] at c
 have hw : Go.IntKind.i64.wrap ((((z :: b).length + 1 : Nat) : Int) - 1) = ((z :: b).length : Int):=by rw [wrap_i64] <;> first | omega | (simp only [yb,yf] at q ⊢; omega)
 have n : (((z :: b).length : Int) < (((z :: b).length + 1 : Nat) : Int)) = True:=by first | (simp; done) | (simp; omega)
 have g : ((((X : Int) :: z :: b).reverse ++ a).map zl)[(z :: b).length]? = some [.f (.lit (.int .i64 (X : Int)))]:=by
  apply zl1;simp
 have w : (((X : Int) :: z :: b).reverse ++ a).take ((z :: b).length + 1) = ((X : Int) :: z :: b).reverse:=yx (by simp);have p : 0 < d.out.length + 1 ∧ d.out.length + 1 ≤ LIM:=⟨by omega,by unfold LIM; omega⟩
 have eo : (d.out.map zl).take d.out.length ++ [[C.f (.lit (.int .i64 (X : Int)))]] = (d.out ++ [(X : Int)]).map zl:=by
  rw [yo (by simp),yy];rfl
 generalize hrow : ((X : Int) :: z :: b).reverse ++ a = row at *;rw [c] at j;have e : (z :: b).reverse ++ ((X : Int) :: a) = row:=by rw [← hrow]; simp
 have m : (b.length ≤ b.length + 1) = True:=by simp
 have y : ((0 : Int) < ((b.length + 1 : Nat) : Int)) = True:=by first | (simp; done) | (simp; omega)
 rw [e];simp -implicitDefEqProofs only [go_sem,stO,obG] at j hw n g;simp -implicitDefEqProofs only [go_sem,zjy,zr,Code.p2,stO,obG,hw,n,yg,ya,g,j,p,eo,y,m,Nat.sub_zero]
theorem zDP : ∀ (k : Nat) (d : DF) (a : List Int) (n vs : Nat) (o : List Int) (a0 a1 a3 a8 a9 g l m f : V),DInv succ d → d.stk.length + k ≤ 4294967296 → d.out.length + k ≤ 4294967296 → dfs succ k d = some o →
  ∃ seen' next' vo' vs' row',exec T (.sc zr zhM) ⟨[a0,a1,.one (.ptr 0 0 0 0),a3,.one (.ptr 1 0 0 0),.one (.ptr 2 0 0 0),.one (.own 3 n 0 d.out.length),.one (.own 4 vs 0 d.stk.length),a8,a9,g,l,m,f],stO succ pred d.seen d.next n d.out vs (d.stk.reverse ++ a),0,0⟩ =
    some (.ret,⟨[vU,vU,vU,.one (.own 3 vo' 0 o.length),vU,vU,vU,vU,vU,vU,vU,vU,vU,vU],stO succ pred seen' next' vo' o.reverse vs' row',0,0⟩):=by
 intro k
 induction k with
 | zero => intro d a n vs o _ _ _ _ _ _ _ _ _ _ _ _ h; simp [dfs] at h
 | succ k ih =>
   intro d a n vs o a0 a1 a3 a8 a9 g l m f hd p E h;simp only [dfs] at h
   cases c : d.stk with
   | nil => rw [c] at h; cases h
   | cons x s =>
     rw [c] at h p;simp only at h;simp only [yb] at p;obtain ⟨C,B⟩:=hd.stk x (by rw [c]; simp);obtain ⟨X,rfl⟩ : ∃ X : Nat,x = X:=⟨x.toNat,by omega⟩;have t : X < succ.length:=(by omega);have i : succ.getD X [] = succ[X]:=(by simp [t]);have u : zxz succ (X : Int) = succ[X].length:=by unfold zxz; rw [ya,i]
     cases b : zf9 succ d (X : Int) with
     | some yj =>
       obtain ⟨y,j⟩:=yj;rw [b] at h;simp only [ya] at h;have r:=b;unfold zf9 at r;rw [ya,i] at r;obtain ⟨I,D,G⟩:=zAv r;have hle:=hd.le X t;rw [i] at hle;have H:=hr _ (yq t) y (List.mem_of_mem_drop G)
       have q : DInv succ ⟨d.seen.set y.toNat true,d.next.set X j,d.out,y :: (X : Int) :: s⟩:=⟨by simpa using hd.seen,by simpa using hd.next,by
         have:=zvZ succ hn hs hr hd ⟨C,B⟩ (j:=j) (by rw [ya,i]; rw [List.length_drop] at D; omega)
         rwa [ya] at this,fun z A => by
        rcases yv.1 A with rfl | A
        ·exact H
        ·exact hd.stk z (by rw [c]; exact A)⟩
       obtain ⟨seen',next',vo',vs',row',v⟩:=ih _ [] n (vs + 1) o vU vU vU vU vU vU vU vU vU q (by simp only [yb]; omega) (by simp only; omega) h;refine ⟨seen',next',vo',vs',row',?_⟩;rw [← v,zeR,zqY,zfa,zeS];simp only [yn,zqo];have e:=zxF succ pred hn hs hr d a n vs X s y j a0 a1 a3 a8 a9 g l m f hd t (by omega) (by omega) b;simp only [yb] at e ⊢;rw [e];simp only [yn,scK,zil];rw [← zqY]
     | none =>
       rw [b] at h;simp only at h
       cases s with
       | nil =>
         simp only [Option.some.injEq] at h;subst h;have e:=zyY succ pred hn hs hr d a n vs X a0 a1 a3 a8 a9 g l m f hd t (by simp) (by omega) b;refine ⟨d.seen,d.next.set X succ[X].length,n + 1,vs,(((X : Int) :: []).reverse ++ a),?_⟩;rw [zeR,zqY,zfa,zeS];simp only [yn,zqo];simp only [yb,yf] at e ⊢;rw [e];simp only [yn,scK];rw [show (d.out ++ [(X : Int)]).length = d.out.length + 1 by simp]
       | cons z s' =>
         simp only [ya] at h;have e:=zyI succ pred hn hs hr d a n vs X z s' a0 a1 a3 a8 a9 g l m f hd t (by simp only [yb] at p ⊢; omega) (by omega) b
         have q : DInv succ ⟨d.seen,d.next.set X (zxz succ X),d.out ++ [(X : Int)],z :: s'⟩:=⟨hd.seen,by simpa using hd.next,by
          have:=zvZ succ hn hs hr hd ⟨C,B⟩ (j:=zxz succ X) (by rw [ya,i,u]; exact yI _)
          rwa [ya] at this,fun w hw => hd.stk w (by rw [c]; exact yk _ hw)⟩
         obtain ⟨seen',next',vo',vs',row',v⟩:=ih _ ((X : Int) :: a) (n + 1) vs o vU vU vU vU vU vU vU vU vU q (by simp only [yb] at p ⊢; omega) (by simp only [yl,yb,yf]; omega) h;refine ⟨seen',next',vo',vs',row',?_⟩;rw [← v,zeR,zqY,zfa,zeS];simp only [yn,zqo];simp only [yb,yl,yf,u] at e ⊢;rw [e];simp only [yn,scK,zil];rw [← zqY]
end
end AC

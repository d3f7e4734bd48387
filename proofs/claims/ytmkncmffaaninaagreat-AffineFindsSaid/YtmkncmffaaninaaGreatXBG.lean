/- A part of the proof of AffineFinds. Conditions: none. -/
import Derived.Test.YtmkncmffaaninaaGreatXBD
import Derived.Test.YtmkncmffaaninaaGreatXBF
import Derived.Test.YtmkncmffaaninaaGreatXBE
import Derived.Test.YtmkncmffaaninaaGreatXAW
set_option linter.all false
open Int renaming toNat_natCast → ya,natCast_nonneg → yg
open List renaming length_cons → yb,getElem?_eq_none → yc,getElem?_eq_getElem → yd,getD_eq_getElem?_getD → ye,length_nil → yf,ext_getElem? → yh,mem_cons_self → yi,mem_cons_of_mem → yk,length_append → yl,count_cons → ym,take_of_length_le → yo,getElem?_set → yp,getElem_mem → yq,length_reverse → yr,getElem?_eq_some_iff → ys,length_set → yt,getElem?_replicate → yu,mem_cons → yv,foldl_cons → yw,take_left' → yx,map_append → yy,getD_cons_zero → yz,map_set → yA,set_set → yK,map → yL
open Option renaming bind_some → yn,getD_some → yF
open Bool renaming not_eq_true' → yB,and_eq_true → yC,not_eq_true → yD
open Nat renaming mul_one → yE,add_zero → yG,zero_add → yH,le_refl → yI,zero_le → yJ
namespace AC
open Go Go.A Go.A.Lex
open Dm
inductive RW (succ : List (List Int)) (root w : Int) : Int → Prop
 | root : root ≠ w → RW succ root w root
 | step {p x : Int} : RW succ root w p → Eg succ p x → x ≠ w → RW succ root w x
def leB (a b : List Bool) : Prop:=∀ j : Nat,a.getD j false = true → b.getD j false = true
theorem leB.trans {a b c : List Bool} (h : leB a b) (k : leB b c) : leB a c:=fun j d => k j (h j d)
theorem zpu (w : Int) : ∀ (l : List Int) (out : List Bool),leB out (l.foldl (mark w) out)
 | [],out => fun j h => h
 | y :: l,out => fun j h => by
   rw [yw];exact zpu w l (mark w out y) j (zvI h)
theorem zxv (w : Int) : ∀ (l : List Int) (out : List Bool),(∀ y ∈ l,0 ≤ y ∧ y < (out.length : Int)) → ∀ y ∈ l,y ≠ w → (l.foldl (mark w) out).getD y.toNat false = true
 | [],_,_ => by simp
 | x :: l,out,hr => fun y b hw => by
   rw [yw];have a : ∀ z ∈ l,0 ≤ z ∧ z < ((mark w out x).length : Int):=fun z c => by rw [zmO]; exact hr z (yk _ c)
   rcases yv.1 b with rfl | b
   ·refine zpu w l _ _ ?_
    have:=hr y yi;unfold mark;rw [if_neg hw,zbE _ _ (by omega)]
   ·exact zxv w l _ a y b hw
theorem znE (w : Int) : ∀ (r : List (List Int)) (i : Nat) (out : List Bool),leB out (zkb w i r out)
 | [],_,_ => fun j h => h
 | l :: r,i,out => by
   rw [zkb];refine leB.trans ?_ (znE w r (i + 1) _);split
   ·exact zpu w l out
   ·exact fun j h => h
theorem zo1 (w : Int) (n : Nat) : ∀ (r : List (List Int)) (i : Nat) (out : List Bool),out.length = n → (∀ l ∈ r,∀ y ∈ l,0 ≤ y ∧ y < (n : Int)) → leB (zkb w i r out) out →
  ∀ (j : Nat) (l : List Int),r[j]? = some l → out.getD (i + j) false = true → ∀ y ∈ l,y ≠ w → out.getD y.toNat false = true
 | [],_,_,_,_,_ => by simp
 | l :: r,i,out,ho,hr,hle => by
   intro j q e c y f hw;rw [zkb] at hle;obtain ⟨b,a⟩ : ∃ b,b = (if out.getD i false = true then l.foldl (mark w) out else out):=⟨_,rfl⟩;rw [← a] at hle
   have h1 : leB out b:=by
    rw [a];split
    ·exact zpu w l out
    ·exact fun j h => h
   have h2 : leB b out:=leB.trans (znE w r (i + 1) b) hle
   have d : b.length = n:=by
    rw [a];split
    ·rw [zil]; exact ho
    ·exact ho
   cases j with
   | zero =>
     simp only [List.getElem?_cons_zero,Option.some.injEq] at e;subst e;rw [yG] at c;refine h2 _ ?_;rw [a,if_pos c];exact zxv w l out (fun z g => by rw [ho]; exact hr l yi z g) y f hw
   | succ j =>
     have:=zo1 w n r (i + 1) b d (fun l k => hr l (yk _ k)) (leB.trans hle h1) j q (by simpa using e) (by rw [show i + 1 + j = i + (j + 1) by omega]; exact h1 _ c) y f hw;exact h2 _ this
theorem count_le : ∀ (a b : List Bool),a.length = b.length → leB a b → a.count true ≤ b.count true ∧ ((∃ j,b.getD j false = true ∧ a.getD j false = false) → a.count true < b.count true)
 | [],b,h,_ => by
   have : b = []:=List.eq_nil_of_length_eq_zero (by simpa using h.symm);subst this;simp
 | x :: a,[],h,_ => by simp at h
 | x :: a,y :: b,h,hle => by
   have c : leB a b:=fun j d => by
    have:=hle (j + 1) (by simpa using d);simpa using this
   have h0:=hle 0;simp only [yz] at h0;obtain ⟨i1,i2⟩:=count_le a b (by simpa using h) c;constructor
   ·rw [ym,ym]
    cases x <;> cases y <;> simp at h0 ⊢ <;> omega
   ·rintro ⟨j,h1,h2⟩
    cases j with
    | zero =>
      simp only [yz] at h1 h2;subst h1 h2;rw [ym,ym];simp;omega
    | succ j =>
      have:=i2 ⟨j,by simpa using h1,by simpa using h2⟩;rw [ym,ym];cases x <;> cases y <;> simp at h0 ⊢ <;> omega
theorem zIe {a b : List Bool} (d : a.length = b.length) (h : leB a b) (k : leB b a) : a = b:=by
 apply yh;intro j
 by_cases c : j < a.length
 ·have cb : j < b.length:=by omega
  have e1 : a.getD j false = a[j]:=by rw [ye,yd c]; rfl
  have e2 : b.getD j false = b[j]:=by rw [ye,yd cb]; rfl
  have h1:=h j;have h2:=k j;rw [e1,e2] at h1 h2;rw [yd c,yd cb]
  congr 1
  cases ha : a[j] <;> cases hb : b[j] <;> simp_all
 ·rw [yc (by omega),yc (by omega)]
section
variable {succ : List (List Int)} (hr : ∀ l ∈ succ,∀ y ∈ l,0 ≤ y ∧ y < (succ.length : Int)) (root w : Int)
def zh9 (succ : List (List Int)) (w : Int) (out : List Bool) : Prop:=∀ (j : Nat) (l : List Int),succ[j]? = some l → out.getD j false = true → ∀ y ∈ l,y ≠ w → out.getD y.toNat false = true
include hr
theorem zny : ∀ (r : Nat) (out : List Bool),out.length = succ.length → zh9 succ w (zfv w succ r out) ∨ out.count true + r ≤ (zfv w succ r out).count true
 | 0,out,_ => .inr (yI _)
 | r + 1,out,ho => by
   rw [zfv];have b:=zh7 w succ 0 out
   by_cases c : leB (zkb w 0 succ out) out
   ·have e:=zIe b c (znE w succ 0 out)
    have d : zh9 succ w out:=fun j l h1 h2 => zo1 w succ.length succ 0 out ho hr c j l h1 (by rw [yH]; exact h2)
    have st : ∀ k,zfv w succ k out = out:=by
     intro k
     induction k with
     | zero => rfl
     | succ k ih => rw [zfv,e,ih]
    left;rw [e,st];exact d
   ·have f : out.count true < (zkb w 0 succ out).count true:=by
     refine (count_le out _ b.symm (znE w succ 0 out)).2 ?_;have hex : ∃ j,¬ ((zkb w 0 succ out).getD j false = true → out.getD j false = true):=Classical.not_forall.1 c;obtain ⟨j,g⟩:=hex;have a:=Classical.not_imp.1 g;exact ⟨j,a.1,by simpa using a.2⟩
    rcases zny r (zkb w 0 succ out) (by rw [b]; exact ho) with h | h
    ·exact .inl h
    ·right; omega
theorem zzF {out : List Bool} (P : Int → Prop) (h : ∀ j : Nat,out.getD j false = true → P (j : Int)) {y : Int} (h0 : 0 ≤ y) (b : y ≠ w → P y) : ∀ j : Nat,(mark w out y).getD j false = true → P (j : Int):=by
 intro j a;unfold mark at a;split at a
 ·exact h j a
 ·rename_i c
  by_cases e : y.toNat = j
  ·rw [show (j : Int) = y by omega]
   exact b c
  ·rw [getD_set_ne _ _ e] at a
   exact h j a
theorem zp3 (P : Int → Prop) : ∀ (l : List Int) (out : List Bool),(∀ j : Nat,out.getD j false = true → P (j : Int)) → (∀ y ∈ l,0 ≤ y ∧ (y ≠ w → P y)) → ∀ j : Nat,(l.foldl (mark w) out).getD j false = true → P (j : Int)
 | [],_,h,_ => h
 | y :: l,out,h,hl => by
   rw [yw];exact zp3 P l _ (zzF hr w P h (hl y yi).1 (hl y yi).2) fun z a => hl z (yk _ a)
theorem zqd (P : Int → Prop) (e : ∀ p x,P p → Eg succ p x → x ≠ w → P x) : ∀ (r : List (List Int)) (i : Nat) (out : List Bool),(∀ j l,r[j]? = some l → succ[i + j]? = some l) → (∀ j : Nat,out.getD j false = true → P (j : Int)) → ∀ j : Nat,(zkb w i r out).getD j false = true → P (j : Int)
 | [],_,_,_,h => h
 | l :: r,i,out,hs,h => by
   rw [zkb];refine zqd P e r (i + 1) _ (fun j q f => ?_) ?_
   ·have:=hs (j + 1) q (by simpa using f)
    rwa [show i + (j + 1) = i + 1 + j by omega] at this
   ·split
    ·rename_i c
     have a:=hs 0 l rfl;rw [yG] at a;have b:=List.mem_of_getElem? a;have g:=(ys.1 a).1;refine zp3 hr w P l out h fun y d => ⟨(hr l b y d).1,fun hw => e (i : Int) y (h i c) ⟨by omega,by omega,?_⟩ hw⟩;rw [ya,ye,a];exact d
    ·exact h
theorem zoV (P : Int → Prop) (a : ∀ p x,P p → Eg succ p x → x ≠ w → P x) : ∀ (r : Nat) (out : List Bool),(∀ j : Nat,out.getD j false = true → P (j : Int)) → ∀ j : Nat,(zfv w succ r out).getD j false = true → P (j : Int)
 | 0,_,h => h
 | r + 1,out,h => by
   rw [zfv];exact zoV P a r _ (zqd hr w P a succ 0 out (fun j l b => by rw [yH]; exact b) h)
theorem zvu : ∀ (r : Nat) (out : List Bool),leB out (zfv w succ r out)
 | 0,_ => fun j h => h
 | r + 1,out => by
   rw [zfv];exact leB.trans (znE w succ 0 out) (zvu r _)
theorem zub (h0 : 0 ≤ root ∧ root < (succ.length : Int)) (j : Nat) : (zdO succ root w).getD j false = true ↔ RW succ root w (j : Int):=by
 unfold zdO
 by_cases c : root = w
 ·rw [if_pos c]
  constructor
  ·intro h
   rw [ye,yu] at h;split at h <;> simp at h
  ·intro h
   exfalso
   have key : ∀ x,RW succ root w x → False:=fun x hx => by
    induction hx with
    | root h => exact h c
    | step _ _ _ ih => exact ih
   exact key _ h
 ·rw [if_neg c]
  obtain ⟨o0,b⟩ : ∃ o,o = (List.replicate succ.length false).set root.toNat true:=⟨_,rfl⟩;have g : o0.length = succ.length:=by rw [b]; simp
  have d : o0.getD root.toNat false = true:=by rw [b,zbE _ _ (by simp; omega)]
  rw [← b];constructor
  ·refine zoV hr w (RW succ root w) (fun p x hp e hx => .step hp e hx) succ.length o0 (fun i k => ?_) j
   rw [b] at k
   by_cases e : root.toNat = i
   ·rw [show (i : Int) = root by omega]
    exact .root c
   ·rw [getD_set_ne _ _ e,ye,yu] at k
    split at k <;> simp at k
  ·have m : zh9 succ w (zfv w succ succ.length o0):=by
    rcases zny hr w succ.length o0 g with h | h
    ·exact h
    ·exfalso
     have h1 : 1 ≤ o0.count true:=by
      rw [b,List.count_set (by simp; omega)];simp
     have h2 : (zfv w succ succ.length o0).count true ≤ succ.length:=by
      have:=List.count_le_length (a:=true) (l:=zfv w succ succ.length o0);rw [zhn,g] at this;exact this
     omega
   have key : ∀ x,RW succ root w x → 0 ≤ x ∧ (zfv w succ succ.length o0).getD x.toNat false = true:=fun x hx => by
    induction hx with
    | root _ => exact ⟨h0.1,zvu hr w _ _ _ d⟩
    | step _ e hx ih =>
      rename_i p x _;have rx:=zxL hr e;refine ⟨rx.1,?_⟩;obtain ⟨e1,e2,e3⟩:=e;have f : p.toNat < succ.length:=(by omega);rw [ye,yd f] at e3;exact m p.toNat succ[p.toNat] (yd f) ih.2 x e3 hx
   intro h;have:=(key _ h).2
   rwa [ya] at this
omit hr in
theorem zFq (x : Int) : RW succ root w x ↔ ∃ l,Way (Eg succ) root x l ∧ w ∉ l:=by
 constructor
 ·intro h
  induction h with
  | root h => exact ⟨_,.root,by simpa using fun e => h e.symm⟩
  | step _ e hx ih =>
    obtain ⟨l,h1,h2⟩:=ih;refine ⟨_,.step h1 e,fun hm => ?_⟩;rcases yv.1 hm with h | h
    ·exact hx h.symm
    ·exact h2 h
 ·rintro ⟨l,h1,h2⟩
  induction h1 with
  | root => exact .root fun e => h2 (by rw [e]; exact yi)
  | step h e ih => exact .step (ih fun hm => h2 (yk _ hm)) e fun e => h2 (by rw [e]; exact yi)
end
section
variable {succ : List (List Int)} (hm : zbH succ = true) {root : Nat} {O : Int → Prop} {pos : Int → Nat} {t : List Int} (Q : TreeOf succ (root : Int) O pos t)
include hm Q
theorem zwU (j : Nat) : (zdO succ (root : Int) (-1)).getD j false = true ↔ O (j : Int):=by
 obtain ⟨b,n64,hr⟩:=ze3 hm;rw [zub hr (root : Int) (-1) ⟨by omega,zor Q⟩,zFq,Q.rch];constructor
 ·rintro ⟨l,h,_⟩; exact ⟨l,h⟩
 ·rintro ⟨l,h⟩
  refine ⟨l,h,fun a => ?_⟩;have:=Q.rng _ ((zyg Q.ord h).2 _ a);omega
theorem zmJ (c b : Nat) : ovB succ (root : Int) c b = true ↔ O (b : Int) ∧ Dom (Eg succ) (root : Int) (c : Int) (b : Int):=by
 obtain ⟨d,n64,hr⟩:=ze3 hm;unfold ovB;rw [yC,zwU hm Q,yB,← yD,zub hr (root : Int) (c : Int) ⟨by omega,zor Q⟩,zFq];constructor
 ·rintro ⟨h1,h2⟩
  refine ⟨h1,fun l w => ?_⟩
  by_cases a : (c : Int) ∈ l
  ·exact a
  ·exact absurd ⟨l,w,a⟩ h2
 ·rintro ⟨h1,h2⟩
  exact ⟨h1,fun ⟨l,w,a⟩ => a (h2 l w)⟩
theorem ztt (b a : Nat) : ∀ (d k : Nat),zfz succ (root : Int) b a k d = true ↔ ∀ c,k ≤ c → c < k + d → c = b ∨ ¬ ovB succ (root : Int) c b = true ∨ ovB succ (root : Int) c a = true
 | 0,k => by simp [zfz]; omega
 | d + 1,k => by
   rw [zfz,yC,ztt b a d (k + 1)];simp only [Bool.or_eq_true,decide_eq_true_eq,yB,yD];constructor
   ·rintro ⟨h1,h2⟩ c g f
    by_cases e : c = k
    ·subst e; exact h1
    ·exact h2 c (by omega) (by omega)
   ·intro h
    exact ⟨h k (by omega) (by omega),fun c g f => h c (by omega) (by omega)⟩
omit hm Q in
theorem zq9 (b : Nat) : ∀ (d k : Nat) (v : Int),(∀ c,k ≤ c → c < k + d → ¬ (c ≠ b ∧ ovB succ (root : Int) c b = true ∧ zfz succ (root : Int) b c 0 succ.length = true)) → zgE succ (root : Int) b k d v = v
 | 0,_,_,_ => rfl
 | d + 1,k,v,h => by
   have h0:=h k (by omega) (by omega);rw [zgE,if_neg,zq9 b d (k + 1) v fun c h1 h2 => h c (by omega) (by omega)];simpa using h0
omit hm Q in
theorem zxq (b k0 : Nat) : ∀ (d k : Nat) (v : Int),k ≤ k0 → k0 < k + d → (k0 ≠ b ∧ ovB succ (root : Int) k0 b = true ∧ zfz succ (root : Int) b k0 0 succ.length = true) →
  (∀ c,k ≤ c → c < k + d → c ≠ k0 → ¬ (c ≠ b ∧ ovB succ (root : Int) c b = true ∧ zfz succ (root : Int) b c 0 succ.length = true)) → zgE succ (root : Int) b k d v = (k0 : Int)
 | 0,k,v,h1,h2,_,_ => by omega
 | d + 1,k,v,h1,h2,hp,hu => by
   rw [zgE]
   by_cases e : k = k0
   ·subst e
    rw [if_pos (by simpa using hp)];exact zq9 b d (k + 1) _ fun c h3 h4 => hu c (by omega) (by omega) (by omega)
   ·exact zxq b k0 d (k + 1) _ (by omega) (by omega) hp fun c h3 h4 => hu c (by omega) (by omega)
theorem zC5 : zdl succ (root : Int) = t.set root (-1):=by
 obtain ⟨v,n64,hr⟩:=ze3 hm;apply yh;intro b
 by_cases hb : b < succ.length
 ·have w:=zl3 Q
  have i : b < (t.set root (-1)).length:=by omega
  rw [zdl,List.getElem?_map,List.getElem?_range hb,yd i];simp only [Option.map_some]
  congr 1
  have e : (t.set root (-1))[b] = tr (t.set root (-1)) (b : Int):=by
   unfold tr;rw [ya,ye,yd i];rfl
  rw [e];unfold zs8
  by_cases c : (b : Int) = (root : Int)
  ·rw [if_pos c,zpW Q (by omega),if_pos c]
  ·rw [if_neg c]
   by_cases f : O (b : Int)
   ·obtain ⟨h1,h2,h3,h4⟩:=zvb Q f c
    have rp:=Q.rng _ h2;obtain ⟨p,hp⟩ : ∃ p : Nat,(p : Int) = tf t (b : Int):=⟨(tf t (b : Int)).toNat,by omega⟩;rw [h1,← hp];rw [← hp] at h2 h3 rp;have a : Dom (Eg succ) (root : Int) (p : Int) (b : Int):=(zwl Q.ord Q.inv Q.st f).1 (.step c (by rw [← hp]; exact .refl _))
    have o : ∀ d,Dom (Eg succ) (root : Int) d (b : Int) → d ≠ (b : Int) → Dom (Eg succ) (root : Int) d (p : Int):=fun d u q => by
     have:=Q.inv.A (b : Int) d c (zJz Q f) u q
     rwa [← hp] at this
    have hpb : p ≠ b:=fun e => by rw [e] at h3; omega
    refine zxq b p succ.length 0 (-2) (yJ _) (by omega) ⟨hpb,(zmJ hm Q p b).2 ⟨f,a⟩,?_⟩ fun k _ r g => ?_
    ·rw [ztt hm Q]
     intro k _ r
     by_cases e1 : k = b
     ·exact .inl e1
     ·by_cases e2 : ovB succ (root : Int) k b = true
      ·exact .inr (.inr ((zmJ hm Q k p).2 ⟨h2,o _ ((zmJ hm Q k b).1 e2).2 (by omega)⟩))
      ·exact .inr (.inl e2)
    ·rintro ⟨x,s,n⟩
     rw [ztt hm Q] at n;have j:=((zmJ hm Q k b).1 s).2;rcases n p (yJ _) (by omega) with e1 | e1 | e1
     ·exact hpb e1
     ·exact e1 ((zmJ hm Q p b).2 ⟨f,a⟩)
     ·obtain ⟨ok,l⟩:=(zmJ hm Q p k).1 e1
      have m:=o _ j (by omega);rcases ztO Q.ord ok l with e2 | e2
      ·exact g (by omega)
      ·rcases ztO Q.ord h2 m with e3 | e3
       ·exact g (by omega)
       ·omega
   ·rw [zAC Q f (by omega)]
    refine zq9 b succ.length 0 (-2) fun k _ _ h => ?_;exact f ((zmJ hm Q k b).1 h.2.1).1
 ·rw [yc (by simp [zdl]; omega),yc (by rw [zl3 Q]; omega)]
omit hm in
theorem zrS : ∀ (r : Nat) (acc : List Int) (a : Int),O a → pos a < r → ∃ ch,pathFrom (t.set root (-1)) r acc a = acc ++ a :: ch ∧ ∀ x,x ∈ a :: ch ↔ Anc (root : Int) (tf t) x a:=by
 intro r
 induction r with
 | zero => intro acc a _ h; omega
 | succ r ih =>
   intro acc a ha h;have ra:=Q.rng a ha;rw [pathFrom,if_neg (by rw [zl3 Q]; omega)]
   by_cases c : a = (root : Int)
   ·rw [if_pos (by rw [zpW Q ra.1,if_pos c])]
    refine ⟨[],rfl,fun x => ?_⟩;rw [List.mem_singleton];constructor
    ·rintro rfl; exact .refl _
    ·intro hx
     by_cases e : x = a
     ·exact e
     ·exact absurd c (zpd hx e).1
   ·obtain ⟨h1,h2,h3,h4⟩:=zvb Q ha c
    rw [h1,if_neg h4];obtain ⟨ch,e1,e2⟩:=ih (acc ++ [a]) (tf t a) h2 (by omega);refine ⟨tf t a :: ch,by rw [e1]; simp,fun x => ?_⟩;rw [yv,e2 x];constructor
    ·rintro (rfl | hx)
     ·exact .refl _
     ·exact .step c hx
    ·intro hx
     by_cases e : x = a
     ·exact .inl e
     ·exact .inr (zpd hx e).2
omit hm in
theorem zBb {a b : Int} (ha : O a) (hb : O b) : zj2 (t.set root (-1)) a b = a ↔ zlU (t.set root (-1)) a b = true:=by
 rw [zxd Q];unfold zj2;rw [if_pos (zxu Q)];have hpa : pos a < (t.set root (-1)).length:=by rw [zl3 Q]; exact Q.low a ha
 have hpb : pos b < (t.set root (-1)).length:=by rw [zl3 Q]; exact Q.low b hb
 obtain ⟨ca,e1,e2⟩:=zrS Q _ [] a ha hpa;obtain ⟨cb,e3,e4⟩:=zrS Q _ [] b hb hpb;rw [List.nil_append] at e1 e3;have f1 : zhM (t.set root (-1)) a = a :: ca:=e1;have f2 : zhM (t.set root (-1)) b = b :: cb:=e3;rw [f1,f2,List.find?_cons]
 by_cases c : a ∈ b :: cb
 ·rw [decide_eq_true c]
  simp only [yF,true_iff];exact ⟨ha,hb,(e4 a).1 c⟩
 ·rw [decide_eq_false c]
  simp only;constructor
  ·intro h
   exfalso
   cases hf : ca.find? (fun x => decide (x ∈ b :: cb)) with
   | none =>
     rw [hf] at h;have:=(Q.rng a ha).1;simp at h;omega
   | some x =>
     rw [hf] at h;have:=List.find?_some hf;simp only [yF] at h;subst h;exact c (by simpa using this)
  ·rintro ⟨_,_,h⟩
   exact absurd ((e4 a).2 h) c
end
end AC
namespace AC
open Go Go.A Go.A.Lex
def rvK (l : List Int) (k : Nat) : List Int:=(List.range l.length).map fun j => if j < k ∨ l.length - k ≤ j then l.getD (l.length - 1 - j) 0 else l.getD j 0
theorem zi6 (l : List Int) (k : Nat) : (rvK l k).length = l.length:=by simp [rvK]
theorem zok (l : List Int) (k j : Nat) (h : j < l.length) : (rvK l k)[j]? = some (if j < k ∨ l.length - k ≤ j then l.getD (l.length - 1 - j) 0 else l.getD j 0):=by simp [rvK,h]
theorem zEQ (l : List Int) : rvK l 0 = l:=by
 apply yh;intro j
 by_cases h : j < l.length
 ·rw [zok l 0 j h,if_neg (by omega)]
  simp [h]
 ·rw [yc (by rw [zi6]; omega),yc (by omega)]
theorem zFD (l : List Int) (k : Nat) (h : l.length ≤ 2 * k + 1) : rvK l k = l.reverse:=by
 apply yh;intro j
 by_cases a : j < l.length
 ·rw [zok l k j a,List.getElem?_reverse a]
  have b : l.length - 1 - j < l.length:=by omega
  by_cases c : j < k ∨ l.length - k ≤ j
  ·rw [if_pos c]
   simp [b]
  ·rw [if_neg c]
   have : l.length - 1 - j = j:=(by omega);rw [this];simp [a]
 ·rw [yc (by rw [zi6]; omega),yc (by simp; omega)]
theorem zDT (l : List Int) (k : Nat) (h : 2 * k + 1 < l.length) : ((rvK l k).set k (l.getD (l.length - 1 - k) 0)).set (l.length - 1 - k) (l.getD k 0) = rvK l (k + 1):=by
 apply yh;intro j
 by_cases a : j < l.length
 ·rw [zok l (k + 1) j a,yp,yp,zok l k j a]
  simp only [yt,zi6]
  by_cases c1 : l.length - 1 - k = j
  ·rw [if_pos c1,if_pos (by omega),if_pos (by omega)]
   have : l.length - 1 - j = k:=(by omega);rw [this]
  ·rw [if_neg c1]
   by_cases c2 : k = j
   ·rw [if_pos c2,if_pos (by omega),if_pos (by omega),c2]
   ·rw [if_neg c2]
    by_cases c3 : j < k ∨ l.length - k ≤ j
    ·rw [if_pos c3,if_pos (by omega)]
    ·rw [if_neg c3,if_neg (by omega)]
 ·rw [yc (by simp [zi6]; omega),yc (by rw [zi6]; omega)]
theorem zmY {l : List Int} {j : Nat} {x : Int} (h : l[j]? = some x) : (l.map zG)[j]? = some [.f (.lit (.int .i64 x))]:=by simp [h,zG]
theorem zvk (σ : zd) (id a : Nat) (l : List Int) (s : l.length ≤ 4294967296) (g : id < σ.length) : ∀ (d k : Nat) (a3 : V),l.length - 2 * k ≤ d → 2 * k ≤ l.length →
  exec T za5 ⟨[.one (.own id a 0 l.length),vI k,vI ((l.length : Int) - 1 - k),a3],σ.set id (.cells a 1 ((rvK l k).map zG)),σ.length,σ.length⟩ =
   some (.exit 0,⟨[vU,vU,vU,vU],σ.set id (.cells a 1 (l.reverse.map zG)),σ.length,σ.length⟩):=by
 have b : ∀ k : Nat,¬ ((k : Int) < (l.length : Int) - 1 - k) → 2 * k ≤ l.length → ∀ (a3 : V),
  exec T za5 ⟨[.one (.own id a 0 l.length),vI k,vI ((l.length : Int) - 1 - k),a3],σ.set id (.cells a 1 ((rvK l k).map zG)),σ.length,σ.length⟩ =
   some (.exit 0,⟨[vU,vU,vU,vU],σ.set id (.cells a 1 (l.reverse.map zG)),σ.length,σ.length⟩):=by
  intro k e i a3;rw [xl za5 rfl,zeS,zFD l k (by omega)];simp -implicitDefEqProofs only [go_sem,e,yt]
 intro d
 induction d with
 | zero =>
   intro k a3 r m;exact b k (by omega) m _
 | succ d ih =>
   intro k a3 r m
   by_cases e : (k : Int) < (l.length : Int) - 1 - k
   ·have i : k < l.length:=by omega
    have j : l.length - 1 - k < l.length:=(by omega);have n:=zmY (zok l k k i);have h:=zmY (zok l k (l.length - 1 - k) j);rw [if_neg (by omega)] at n h;have e1 : ((l.length : Int) - 1 - k).toNat = l.length - 1 - k:=(by omega);have e2 : (0 : Int) ≤ (l.length : Int) - 1 - k:=(by omega);have e3 : ((l.length : Int) - 1 - k < (l.length : Int)) = True:=(by simp; omega);have p : Go.IntKind.i64.wrap ((k : Int) + 1) = ((k + 1 : Nat) : Int):=(by rw [wrap_i64] <;> omega);have o : Go.IntKind.i64.wrap ((l.length : Int) - 1 - k - 1) = (l.length : Int) - 1 - ((k + 1 : Nat) : Int):=(by rw [wrap_i64] <;> omega);have t : ((l.map zG).length) = l.length:=(by simp);have st:=congrArg (yL zG) (zDT l k (by omega));rw [yA,yA] at st;have:=ih (k + 1) vU (by omega) (by omega);rw [← st] at this;have q : ¬ l.length - 1 - k = k:=by omega
    have c : ((yL zG (rvK l k)).set k (zG (l.getD (l.length - 1 - k) 0)))[l.length - 1 - k]? = some [.f (.lit (.int .i64 (l.getD (l.length - 1 - k) 0)))]:=by
     rw [List.getElem?_set_ne (by omega)];exact h
    rw [xl za5 rfl,zeS];simp -implicitDefEqProofs only [go_sem,zG] at this c;simp -implicitDefEqProofs only [go_sem,e,e1,e2,e3,ilt i,yg,ya,List.getElem?_set_self g,n,h,c,yK,yt,p,o,this]
   ·exact b k e m _
theorem zuR (σ : zd) (id a : Nat) (l : List Int) (d : l.length ≤ 4294967296) (c : σ[id]? = some (.cells a 1 (l.map zG))) (n : Nat) (g : n = l.length) :
  call T 149 [.one (.own id a 0 n)] σ = some (.tup [],σ.set id (.cells a 1 (l.reverse.map zG))):=by
 subst g;rw [ze (fn:=zfe) rfl];have b : id < σ.length:=(ys.1 c).1;have h:=fun a3 => zvk σ id a l d b l.length 0 a3 (by omega) (by omega)
 have f : σ.set id (.cells a 1 (l.map zG)) = σ:=by
  apply yh;intro j;rw [yp]
  by_cases e : id = j
  ·subst e; rw [if_pos rfl,if_pos b,c]
  ·rw [if_neg e]
 rw [zEQ,f] at h;simp only [Int.natCast_zero,Int.sub_zero] at h;have w : Go.IntKind.i64.wrap ((l.length : Int) - 1) = (l.length : Int) - 1:=by rw [wrap_i64] <;> omega
 simp -implicitDefEqProofs only [go_sem] at h;simp -implicitDefEqProofs only [go_sem,zfe,w,h,yt]
theorem n64 : ((64 : Nat) : Int) = 64:=rfl
attribute [go_sem] n64
def cB (b : Bool) : C:=.f (.lit (.bool b))
def cN (n : Nat) : C:=.f (.lit (.int .i64 n))
section
variable (succ pred : List (List Int)) (hn : succ.length ≤ 64) (hs : ∀ l ∈ succ,l.length ≤ 4294967296) (hr : ∀ l ∈ succ,∀ y ∈ l,0 ≤ y ∧ y < (succ.length : Int))
abbrev obG : Ob:=.cells 0 2 [[.f (.sl (succ.map rl)),.f (.sl (pred.map rl))]]
abbrev stO (seen : List Bool) (next : List Nat) (vo : Nat) (out : List Int) (vs : Nat) (row : List Int) : zd :=
 [obG succ pred,.cells 0 64 [seen.map cB],.cells 0 64 [next.map cN],.cells vo 1 (out.map zG),.cells vs 1 (row.map zG)]
include hn hs hr
theorem zv7 (X : Nat) (w : X < succ.length) (seen : List Bool) (J : seen.length = 64) (u : Nat) (out : List Int) (vs : Nat) (row : List Int) (m : Nat) (hm : m ≤ row.length) (L : m + 1 ≤ 4294967296) : ∀ (d a : Nat) (next : List Nat) (a0 a1 a3 a9 t r p q : V),next.length = 64 → next[X]? = some a → succ[X].length - a = d → a ≤ succ[X].length →
  exec T zgH ⟨[a0,a1,.one (.ptr 0 0 0 0),a3,.one (.ptr 1 0 0 0),.one (.ptr 2 0 0 0),.one (.own 3 u 0 out.length),.one (.own 4 vs 0 m),vI X,a9,t,r,p,q],stO succ pred seen next u out vs row,0,0⟩ =
   some (match scan seen (succ[X].drop a) a with
    | none => (.exit 0,⟨[vU,vU,.one (.ptr 0 0 0 0),vU,.one (.ptr 1 0 0 0),.one (.ptr 2 0 0 0),.one (.own 3 u 0 out.length),.one (.own 4 vs 0 m),vI X,vU,vU,vU,vU,vU],stO succ pred seen (next.set X succ[X].length) u out vs row,0,0⟩)
    | some (y,j) => (.goto 0,⟨[vU,vU,.one (.ptr 0 0 0 0),vU,.one (.ptr 1 0 0 0),.one (.ptr 2 0 0 0),.one (.own 3 u 0 out.length),.one (.own 4 (vs + 1) 0 (m + 1)),vU,vU,vU,vU,vU,vU],stO succ pred (seen.set y.toNat true) (next.set X j) u out (vs + 1) (row.take m ++ [y]),0,0⟩)):=by
 intro d;have i : X < 64:=by omega
 have n : ((X : Int) < 64) = True:=by simp; omega
 have I:=hs _ (yq w)
 induction d with
 | zero =>
   intro a next a0 a1 a3 a9 t r p q b c M N
   have h : a = succ[X].length:=(by omega);subst h;have G : (next.map cN)[X]? = some (cN succ[X].length):=by simp [c]
   have B : next.set X succ[X].length = next:=by
    apply yh;intro j;rw [yp]
    by_cases e : X = j
    ·subst e; rw [if_pos rfl,if_pos (by omega),c]
    ·rw [if_neg e]
   rw [xl zgH rfl,ziC,B];simp -implicitDefEqProofs only [go_sem,stO,obG,zy w,rl,n,yg,ya,yE,G,cN,Int.lt_irrefl,List.drop_length,scan]
 | succ d ih =>
   intro a next a0 a1 a3 a9 t r p q b c M N
   have h : a < succ[X].length:=(by omega);have hd : succ[X].drop a = succ[X][a] :: succ[X].drop (a + 1):=List.drop_eq_getElem_cons h;obtain ⟨P,O⟩:=hr _ (yq w) _ (yq h);have D : (succ[X].map ri)[a]? = some (ri succ[X][a]):=zy h;generalize succ[X][a] = y at *;obtain ⟨Y,rfl⟩ : ∃ Y : Nat,y = Y:=⟨y.toNat,by omega⟩;have K : Y < 64:=(by omega);have A : ((Y : Int) < 64) = True:=(by simp; omega);have G : (next.map cN)[X]? = some (cN a):=(by simp [c]);have s:=ztg (e:=next.map cN) (k:=X) (.f (.lit (.int .i64 ((a + 1 : Nat) : Int)))) (by simp; omega);have H : C.f (.lit (.int .i64 ((a + 1 : Nat) : Int))) = cN (a + 1):=rfl;have x : (next.map cN).set X (C.f (.lit (.int .i64 ((a + 1 : Nat) : Int)))) = (next.set X (a + 1)).map cN:=(by rw [H,yA]);rw [x] at s;have hle:=zrE (show X < next.length by omega)
   have g : (seen.map cB)[Y]? = some (cB (seen.getD Y false)):=by
    have : Y < seen.length:=(by omega);simp [this]
   have l:=ztg (e:=seen.map cB) (k:=Y) (.f (.lit (.bool true))) (by simp; omega);have o : (seen.map cB).set Y (C.f (.lit (.bool true))) = (seen.set Y true).map cB:=(by rw [yA]; rfl);rw [o] at l;have E:=zrE (show Y < seen.length by omega);have hw : Go.IntKind.i64.wrap ((a : Int) + 1) = ((a + 1 : Nat) : Int):=za h I;have z : ((next.set X (a + 1)).map cN)[X]? = some (cN (a + 1)):=(by simp [b,i]);have v : 0 < m + 1 ∧ m + 1 ≤ LIM:=⟨by omega,by unfold LIM; omega⟩;rw [xl zgH rfl,ziC,hd,scan];rw [ya];cases e : seen.getD Y false
   ·rw [e] at g
    have er : (row.map zG).take m ++ [[C.f (.lit (.int .i64 (Y : Int)))]] = (row.take m ++ [(Y : Int)]).map zG:=(by simp [zG,List.map_take]);simp -implicitDefEqProofs only [go_sem,stO,obG,zy w,rl,n,yg,ya,yE,G,cN,ilt h,D,ri,A,hw,s,hle,z,g,cB,l,E,v,er]
   ·rw [e] at g
    have:=ih (a + 1) (next.set X (a + 1)) vU vU vU vU vU vU vU vU (by simpa using b) (by simp [b,i]) (by omega) (by omega);simp -implicitDefEqProofs only [go_sem,stO,obG,yK] at this;simp -implicitDefEqProofs only [go_sem,stO,obG,zy w,rl,n,yg,ya,yE,G,cN,ilt h,D,ri,A,hw,s,hle,z,g,cB,this]
end
attribute [go_sem] Option.any_some
def zk0 : Go.A.Code:=zx.p2.p2.p2.p2.p2.p2.p2
theorem zrO : ziN = .seq .skip zk0:=rfl
section
variable (succ pred : List (List Int)) (hn : succ.length ≤ 64) (hs : ∀ l ∈ succ,l.length ≤ 4294967296) (hr : ∀ l ∈ succ,∀ y ∈ l,0 ≤ y ∧ y < (succ.length : Int))
include hn hs hr
theorem zxP {d : DF} (hd : DInv succ d) {x : Int} (f : 0 ≤ x ∧ x < (succ.length : Int)) {j : Nat} (b : j ≤ (succ.getD x.toNat []).length) : ∀ X,X < succ.length → (d.next.set x.toNat j).getD X 0 ≤ (succ.getD X []).length:=by
 intro X a;have c:=hd.next
 by_cases e : x.toNat = X
 ·subst e
  rw [zbE _ _ (by omega)];exact b
 ·rw [getD_set_ne _ _ e]
  exact hd.le X a
theorem zyx (d : DF) (a : List Int) (o vs : Nat) (X : Nat) (s : List Int) (y : Int) (j : Nat) (a0 a1 a3 a8 a9 l h c g : V) (hd : DInv succ d) (r : X < succ.length) (m : s.length + 2 ≤ 4294967296) (x : d.out.length + 1 ≤ 4294967296) (b : zgZ succ d X = some (y,j)) :
  exec T zk0 ⟨[a0,a1,.one (.ptr 0 0 0 0),a3,.one (.ptr 1 0 0 0),.one (.ptr 2 0 0 0),.one (.own 3 o 0 d.out.length),.one (.own 4 vs 0 (s.length + 1)),a8,a9,l,h,c,g],stO succ pred d.seen d.next o d.out vs (((X : Int) :: s).reverse ++ a),0,0⟩ =
   some (.goto 0,⟨[vU,vU,.one (.ptr 0 0 0 0),vU,.one (.ptr 1 0 0 0),.one (.ptr 2 0 0 0),.one (.own 3 o 0 d.out.length),.one (.own 4 (vs + 1) 0 (s.length + 2)),vU,vU,vU,vU,vU,vU],stO succ pred (d.seen.set y.toNat true) (d.next.set X j) o d.out (vs + 1) ((y :: (X : Int) :: s).reverse ++ []),0,0⟩):=by
 have q:=hd.next;have n : succ.getD X [] = succ[X]:=by simp [r]
 have u : d.next[X]? = some (d.next.getD X 0):=by
  have : X < d.next.length:=by omega
  simp [this]
 have hle:=hd.le X r;rw [n] at hle;have i:=fun a0 a1 a3 a9 l h c g => zv7 succ pred hn hs hr X r d.seen hd.seen o d.out vs (((X : Int) :: s).reverse ++ a) (s.length + 1) (by simp only [yl,yr,yb,yf]; omega) (by first | omega | (simp only [yb,yf] at m ⊢; omega)) _ (d.next.getD X 0) d.next a0 a1 a3 a9 l h c g q u rfl hle
 have t : zgZ succ d (X : Int) = scan d.seen (succ[X].drop (d.next.getD X 0)) (d.next.getD X 0):=by
  unfold zgZ;rw [ya,n]
 rw [t] at b
 have hw : Go.IntKind.i64.wrap (((s.length + 1 : Nat) : Int) - 1) = (s.length : Int):=by rw [wrap_i64] <;> first | omega | (simp only [yb,yf] at m ⊢; omega)
 have p : ((s.length : Int) < ((s.length + 1 : Nat) : Int)) = True:=by first | (simp; done) | (simp; omega)
 have k : ((((X : Int) :: s).reverse ++ a).map zG)[s.length]? = some [.f (.lit (.int .i64 (X : Int)))]:=by
  apply zmY;simp
 have v : (((X : Int) :: s).reverse ++ a).take (s.length + 1) = ((X : Int) :: s).reverse:=yx (by simp);have w : 0 < d.out.length + 1 ∧ d.out.length + 1 ≤ LIM:=⟨by omega,by unfold LIM; omega⟩
 have eo : (d.out.map zG).take d.out.length ++ [[C.f (.lit (.int .i64 (X : Int)))]] = (d.out ++ [(X : Int)]).map zG:=by
  rw [yo (by simp),yy];rfl
 generalize hrow : ((X : Int) :: s).reverse ++ a = row at *;rw [b] at i;have e : (y :: (X : Int) :: s).reverse ++ [] = row.take (s.length + 1) ++ [y]:=by rw [v]; simp
 have z : 0 < s.length + 2 ∧ s.length + 2 ≤ LIM:=⟨by omega,by unfold LIM; omega⟩;rw [e];simp -implicitDefEqProofs only [go_sem,stO,obG] at i;simp -implicitDefEqProofs only [go_sem,zk0,zx,Code.p2,stO,obG,hw,p,yg,ya,k,i]
theorem zBc (d : DF) (a : List Int) (k vs : Nat) (X : Nat)  (a0 a1 a3 a8 a9 j h e g : V) (hd : DInv succ d) (r : X < succ.length) (l : ([] : List Int).length + 2 ≤ 4294967296) (u : d.out.length + 1 ≤ 4294967296) (b : zgZ succ d X = none) :
  exec T zk0 ⟨[a0,a1,.one (.ptr 0 0 0 0),a3,.one (.ptr 1 0 0 0),.one (.ptr 2 0 0 0),.one (.own 3 k 0 d.out.length),.one (.own 4 vs 0 (([] : List Int).length + 1)),a8,a9,j,h,e,g],stO succ pred d.seen d.next k d.out vs (((X : Int) :: ([] : List Int)).reverse ++ a),0,0⟩ =
   some (.ret,⟨[vU,vU,vU,.one (.own 3 (k + 1) 0 (d.out.length + 1)),vU,vU,vU,vU,vU,vU,vU,vU,vU,vU],stO succ pred d.seen (d.next.set X succ[X].length) (k + 1) (d.out ++ [(X : Int)]).reverse vs (((X : Int) :: []).reverse ++ a),0,0⟩):=by
 have q:=hd.next;have o : succ.getD X [] = succ[X]:=by simp [r]
 have t : d.next[X]? = some (d.next.getD X 0):=by
  have : X < d.next.length:=by omega
  simp [this]
 have hle:=hd.le X r;rw [o] at hle;have i:=fun a0 a1 a3 a9 j h e g => zv7 succ pred hn hs hr X r d.seen hd.seen k d.out vs (((X : Int) :: ([] : List Int)).reverse ++ a) (([] : List Int).length + 1) (by simp only [yl,yr,yb,yf]; omega) (by first | omega | (simp only [yb,yf] at l ⊢; omega)) _ (d.next.getD X 0) d.next a0 a1 a3 a9 j h e g q t rfl hle
 have s : zgZ succ d (X : Int) = scan d.seen (succ[X].drop (d.next.getD X 0)) (d.next.getD X 0):=by
  unfold zgZ;rw [ya,o]
 rw [s] at b
 have hw : Go.IntKind.i64.wrap (((([] : List Int).length + 1 : Nat) : Int) - 1) = (([] : List Int).length : Int):=by rw [wrap_i64] <;> first | omega | (simp only [yb,yf] at l ⊢; omega)
 have m : ((([] : List Int).length : Int) < ((([] : List Int).length + 1 : Nat) : Int)) = True:=by first | (simp; done) | (simp; omega)
 have c : ((((X : Int) :: ([] : List Int)).reverse ++ a).map zG)[([] : List Int).length]? = some [.f (.lit (.int .i64 (X : Int)))]:=by
  apply zmY;simp
 have v : (((X : Int) :: ([] : List Int)).reverse ++ a).take (([] : List Int).length + 1) = ((X : Int) :: ([] : List Int)).reverse:=yx (by simp);have n : 0 < d.out.length + 1 ∧ d.out.length + 1 ≤ LIM:=⟨by omega,by unfold LIM; omega⟩
 have eo : (d.out.map zG).take d.out.length ++ [[C.f (.lit (.int .i64 (X : Int)))]] = (d.out ++ [(X : Int)]).map zG:=by
  rw [yo (by simp),yy];rfl
 generalize hrow : ((X : Int) :: ([] : List Int)).reverse ++ a = row at *;rw [b] at i;have p:=zuR (stO succ pred d.seen (d.next.set X succ[X].length) (k + 1) (d.out ++ [(X : Int)]) vs row) 3 (k + 1) (d.out ++ [(X : Int)]) (by simp; omega) rfl (d.out.length + 1) (by simp);simp -implicitDefEqProofs only [go_sem,stO,obG] at i p hw m c;simp -implicitDefEqProofs only [go_sem,zk0,zx,Code.p2,stO,obG,hw,m,yg,ya,c,i,n,eo,p]
theorem zBE (d : DF) (a : List Int) (r vs : Nat) (X : Nat) (z : Int) (b : List Int) (a0 a1 a3 a8 a9 l j h i : V) (hd : DInv succ d) (t : X < succ.length) (m : (z :: b).length + 2 ≤ 4294967296) (x : d.out.length + 1 ≤ 4294967296) (c : zgZ succ d X = none) :
  exec T zk0 ⟨[a0,a1,.one (.ptr 0 0 0 0),a3,.one (.ptr 1 0 0 0),.one (.ptr 2 0 0 0),.one (.own 3 r 0 d.out.length),.one (.own 4 vs 0 ((z :: b).length + 1)),a8,a9,l,j,h,i],stO succ pred d.seen d.next r d.out vs (((X : Int) :: (z :: b)).reverse ++ a),0,0⟩ =
   some (.goto 0,⟨[vU,vU,.one (.ptr 0 0 0 0),vU,.one (.ptr 1 0 0 0),.one (.ptr 2 0 0 0),.one (.own 3 (r + 1) 0 (d.out.length + 1)),.one (.own 4 vs 0 (b.length + 1)),vU,vU,vU,vU,vU,vU],stO succ pred d.seen (d.next.set X succ[X].length) (r + 1) (d.out ++ [(X : Int)]) vs ((z :: b).reverse ++ ((X : Int) :: a)),0,0⟩):=by
 have s:=hd.next;have p : succ.getD X [] = succ[X]:=by simp [t]
 have v : d.next[X]? = some (d.next.getD X 0):=by
  have : X < d.next.length:=by omega
  simp [this]
 have hle:=hd.le X t;rw [p] at hle;have k:=fun a0 a1 a3 a9 l j h i => zv7 succ pred hn hs hr X t d.seen hd.seen r d.out vs (((X : Int) :: z :: b).reverse ++ a) ((z :: b).length + 1) (by simp only [yl,yr,yb,yf]; omega) (by first | omega | (simp only [yb,yf] at m ⊢; omega)) _ (d.next.getD X 0) d.next a0 a1 a3 a9 l j h i s v rfl hle
 have u : zgZ succ d (X : Int) = scan d.seen (succ[X].drop (d.next.getD X 0)) (d.next.getD X 0):=by
  unfold zgZ;rw [ya,p]
 rw [u] at c
 have hw : Go.IntKind.i64.wrap ((((z :: b).length + 1 : Nat) : Int) - 1) = ((z :: b).length : Int):=by rw [wrap_i64] <;> first | omega | (simp only [yb,yf] at m ⊢; omega)
 have n : (((z :: b).length : Int) < (((z :: b).length + 1 : Nat) : Int)) = True:=by first | (simp; done) | (simp; omega)
 have g : ((((X : Int) :: z :: b).reverse ++ a).map zG)[(z :: b).length]? = some [.f (.lit (.int .i64 (X : Int)))]:=by
  apply zmY;simp
 have y : (((X : Int) :: z :: b).reverse ++ a).take ((z :: b).length + 1) = ((X : Int) :: z :: b).reverse:=yx (by simp);have o : 0 < d.out.length + 1 ∧ d.out.length + 1 ≤ LIM:=⟨by omega,by unfold LIM; omega⟩
 have eo : (d.out.map zG).take d.out.length ++ [[C.f (.lit (.int .i64 (X : Int)))]] = (d.out ++ [(X : Int)]).map zG:=by
  rw [yo (by simp),yy];rfl
 generalize hrow : ((X : Int) :: z :: b).reverse ++ a = row at *;rw [c] at k;have e : (z :: b).reverse ++ ((X : Int) :: a) = row:=by rw [← hrow]; simp
 have q : (b.length ≤ b.length + 1) = True:=by simp
 have w : ((0 : Int) < ((b.length + 1 : Nat) : Int)) = True:=by first | (simp; done) | (simp; omega)
 rw [e];simp -implicitDefEqProofs only [go_sem,stO,obG] at k hw n g;simp -implicitDefEqProofs only [go_sem,zk0,zx,Code.p2,stO,obG,hw,n,yg,ya,g,k,o,eo,w,q,Nat.sub_zero]
theorem zGW : ∀ (k : Nat) (d : DF) (a : List Int) (n vs : Nat) (o : List Int) (a0 a1 a3 a8 a9 m l f i : V),DInv succ d → d.stk.length + k ≤ 4294967296 → d.out.length + k ≤ 4294967296 → dfs succ k d = some o →
  ∃ seen' next' vo' vs' row',exec T (.sc zx ziN) ⟨[a0,a1,.one (.ptr 0 0 0 0),a3,.one (.ptr 1 0 0 0),.one (.ptr 2 0 0 0),.one (.own 3 n 0 d.out.length),.one (.own 4 vs 0 d.stk.length),a8,a9,m,l,f,i],stO succ pred d.seen d.next n d.out vs (d.stk.reverse ++ a),0,0⟩ =
    some (.ret,⟨[vU,vU,vU,.one (.own 3 vo' 0 o.length),vU,vU,vU,vU,vU,vU,vU,vU,vU,vU],stO succ pred seen' next' vo' o.reverse vs' row',0,0⟩):=by
 intro k
 induction k with
 | zero => intro d a n vs o _ _ _ _ _ _ _ _ _ _ _ _ h; simp [dfs] at h
 | succ k ih =>
   intro d a n vs o a0 a1 a3 a8 a9 m l f i hd p E h;simp only [dfs] at h
   cases c : d.stk with
   | nil => rw [c] at h; cases h
   | cons x s =>
     rw [c] at h p;simp only at h;simp only [yb] at p;obtain ⟨B,C⟩:=hd.stk x (by rw [c]; simp);obtain ⟨X,rfl⟩ : ∃ X : Nat,x = X:=⟨x.toNat,by omega⟩;have t : X < succ.length:=(by omega);have g : succ.getD X [] = succ[X]:=(by simp [t]);have u : zzo succ (X : Int) = succ[X].length:=by unfold zzo; rw [ya,g]
     cases b : zgZ succ d (X : Int) with
     | some yj =>
       obtain ⟨y,j⟩:=yj;rw [b] at h;simp only [ya] at h;have r:=b;unfold zgZ at r;rw [ya,g] at r;obtain ⟨I,G,H⟩:=zAi r;have hle:=hd.le X t;rw [g] at hle;have D:=hr _ (yq t) y (List.mem_of_mem_drop H)
       have q : DInv succ ⟨d.seen.set y.toNat true,d.next.set X j,d.out,y :: (X : Int) :: s⟩:=⟨by simpa using hd.seen,by simpa using hd.next,by
         have:=zxP succ hn hs hr hd ⟨B,C⟩ (j:=j) (by rw [ya,g]; rw [List.length_drop] at G; omega)
         rwa [ya] at this,fun z v => by
        rcases yv.1 v with rfl | v
        ·exact D
        ·exact hd.stk z (by rw [c]; exact v)⟩
       obtain ⟨seen',next',vo',vs',row',A⟩:=ih _ [] n (vs + 1) o vU vU vU vU vU vU vU vU vU q (by simp only [yb]; omega) (by simp only; omega) h;refine ⟨seen',next',vo',vs',row',?_⟩;rw [← A,zhH,zrO,zdI,zhL];simp only [yn,zri];have e:=zyx succ pred hn hs hr d a n vs X s y j a0 a1 a3 a8 a9 m l f i hd t (by omega) (by omega) b;simp only [yb] at e ⊢;rw [e];simp only [yn,scK,zi0];rw [← zrO]
     | none =>
       rw [b] at h;simp only at h
       cases s with
       | nil =>
         simp only [Option.some.injEq] at h;subst h;have e:=zBc succ pred hn hs hr d a n vs X a0 a1 a3 a8 a9 m l f i hd t (by simp) (by omega) b;refine ⟨d.seen,d.next.set X succ[X].length,n + 1,vs,(((X : Int) :: []).reverse ++ a),?_⟩;rw [zhH,zrO,zdI,zhL];simp only [yn,zri];simp only [yb,yf] at e ⊢;rw [e];simp only [yn,scK];rw [show (d.out ++ [(X : Int)]).length = d.out.length + 1 by simp]
       | cons z s' =>
         simp only [ya] at h;have e:=zBE succ pred hn hs hr d a n vs X z s' a0 a1 a3 a8 a9 m l f i hd t (by simp only [yb] at p ⊢; omega) (by omega) b
         have q : DInv succ ⟨d.seen,d.next.set X (zzo succ X),d.out ++ [(X : Int)],z :: s'⟩:=⟨hd.seen,by simpa using hd.next,by
          have:=zxP succ hn hs hr hd ⟨B,C⟩ (j:=zzo succ X) (by rw [ya,g,u]; exact yI _)
          rwa [ya] at this,fun w hw => hd.stk w (by rw [c]; exact yk _ hw)⟩
         obtain ⟨seen',next',vo',vs',row',A⟩:=ih _ ((X : Int) :: a) (n + 1) vs o vU vU vU vU vU vU vU vU vU q (by simp only [yb] at p ⊢; omega) (by simp only [yl,yb,yf]; omega) h;refine ⟨seen',next',vo',vs',row',?_⟩;rw [← A,zhH,zrO,zdI,zhL];simp only [yn,zri];simp only [yb,yl,yf,u] at e ⊢;rw [e];simp only [yn,scK,zi0];rw [← zrO]
end
end AC

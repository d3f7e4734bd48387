/- A part of the proof of AliasBoth. Conditions: none. -/
import Derived.Test.YtmkncmffaaninaaGreatAAI
set_option linter.all false
open Option renaming bind_eq_some_iff → ya,map_eq_some_iff → yb,bind_some → ye,map_some → yk
open Array renaming getElem?_eq_getElem → yc,getD_eq_getD_getElem? → yd,getElem?_eq_some_iff → yf
open Bool renaming and_eq_true → yg,not_eq_true' → yq
open List renaming getElem?_eq_getElem → yh,range → yi,mem_append_left → yj,filter_cons → ym,mem_append_right → yn,mem_cons_of_mem → yo,getElem?_set_ne → yp,mem_cons → yt,not_mem_nil → yu,mem_filter → yv,range_succ → yw,mem_map → yx
open Nat renaming le_refl → yl,lt_or_ge → yr
namespace Go.A
def zup (o : Go.Oper) : List Nat:=(o.after.toList.filter fun e => Region.binds .any e).map (·.on)
def zae (gops : Array Go.Oper) (j : Nat) : List Nat:=match gops[j]? with
 | some o => zup o
 | none => []
inductive Reach (gops : Array Go.Oper) : Nat → Nat → Prop where
 | edge {j i : Nat} : i ∈ zae gops j → Reach gops j i
 | more {j k i : Nat} : k ∈ zae gops j → Reach gops k i → Reach gops j i
def lo (gops : Array Go.Oper) (xs : List Oper) (i : Nat) : Option Tmp:=match gops[i]?,xs[i]? with
 | some o,some x => zaH o.dst x.dst
 | _,_ => none
def zfI (gops : Array Go.Oper) (xs : List Oper) (j : Nat) : List (Option Tmp):=(yi j).reverse.map (lo gops xs)
def zxA (gops : Array Go.Oper) (xs : List Oper) (j i : Nat) : Option Tmp:=if (zae gops j).contains i then lo gops xs i else none
def zdi (gops : Array Go.Oper) (xs : List Oper) (j : Nat) : List (Option Tmp):=(yi j).reverse.map (zxA gops xs j)
theorem zhu {α : Type} (f : Nat → α) {j d : Nat} (h : d < j) : ((yi j).reverse.map f)[d]? = some (f (j - 1 - d)):=by
 rw [List.getElem?_map,List.getElem?_reverse (by simpa using h),List.length_range,List.getElem?_range (by omega)];rfl
section
variable {P : Program} {κ : List Tmp} {nt : Nat} {gops : Array Go.Oper} {xs : List Oper}
theorem zj6 {Cf : zL} : ∀ (xs : List Oper) (r r1 : R),steps Cf xs r = some r1 → ∃ rr : Nat → R,rr 0 = r ∧ rr xs.length = r1 ∧ ∀ i x,xs[i]? = some x → step Cf (rr i) x = some (rr (i + 1))
 | [],r,r1,h => by
   simp only [steps,Option.some.injEq] at h;exact ⟨fun _ => r,rfl,h,fun i x h => by simp at h⟩
 | x :: xs,r,r1,h => by
   simp only [steps,ya] at h;obtain ⟨d,g,b⟩:=h;obtain ⟨rr,c,e,f⟩:=zj6 xs d r1 b
   refine ⟨fun i => match i with
    | 0 => r
    | i + 1 => rr i,rfl,e,fun i y a => ?_⟩
   cases i with
   | zero =>
     simp at a;subst a;simp only [c];exact g
   | succ i => exact f i y (by simpa using a)
structure Mid (gops : Array Go.Oper) (xs : List Oper) (κ : List Tmp) (nt p : Nat) (envD : (Nat → Bool) → List V) (v : Nat → V) (σD : (Nat → Bool) → zb) (g0 : G) (w0 : World) (σ0 : zb) (D : Nat → Bool) (g : G) (w : World) (a : Act) : Prop where
 ext : Ext g0 w0 σ0 g w (σD D)
 rel : Rel g w (σD D)
 size : a.tmps.size = nt
 df : a.defers = []
 slot : ∀ (i : Nat) (t : Tmp),κ[i]? = some t → ze g w (σD D) ((envD D).getD i vun) (a.tmps.getD t undef)
 done : ∀ i t,i < p → D i = true → lo gops xs i = some t → ze g w (σD D) (v i) (a.tmps.getD t undef)
def zaJ (D : Nat → Bool) (j : Nat) : Nat → Bool:=fun i => if i = j then true else D i
def Dof (listed : Array Bool) : Nat → Bool:=fun i => listed.getD i false
structure Plan (P : Program) (κ : List Tmp) (nt : Nat) (gops : Array Go.Oper) (xs : List Oper) (p : Nat) : Prop where
 len : xs.length = gops.size
 p_le : p ≤ gops.size
 back : ∀ j o,gops[j]? = some o → ∀ i ∈ zup o,i < j
 pre : ∀ j o x,j < p → gops[j]? = some o → xs[j]? = some x → okD κ nt o.dst x.dst = true
 apart : ∀ i j t,i < p → j < p → lo gops xs i = some t → lo gops xs j = some t → i = j
 tail : ∀ j o x,p ≤ j → gops[j]? = some o → xs[j]? = some x → okD κ nt o.dst x.dst = true ∧ zdS κ (zfI gops xs j) gops o.guard x.guard = true ∧ zkj P κ (zfI gops xs j) o x.dst x.op = true ∧ ∀ i,i < j → Reach gops j i
variable {p b l : Nat} {envD : (Nat → Bool) → List V} {v : Nat → V} {σD : (Nat → Bool) → zb} {g0 : G} {w0 : World} {σ0 : zb} {rr : Nat → R}
def zfl (gops : Array Go.Oper) (D : Nat → Bool) : Prop:=∀ j,D j = true → ∀ i ∈ zae gops j,D i = true
theorem zaA {D : Nat → Bool} (c : zfl gops D) {j i : Nat} (h : Reach gops j i) : (∀ i ∈ zae gops j,D i = true) → D i = true:=by
 induction h with
 | edge h => exact fun a => a _ h
 | more h _ ih => exact fun a => ih fun i b => c _ (a _ h) i b
theorem zif {a : Array Bool} (k : a.size = gops.size) {j : Nat} : j ∈ Region.ready .any gops a ↔ (∃ o,gops[j]? = some o) ∧ Dof a j = false ∧ ∀ i ∈ zae gops j,Dof a i = true:=by
 rw [mem_ready];constructor
 ·rintro ⟨c,o,b,h⟩
  have f : j < gops.size:=(yf.1 b).1;refine ⟨⟨o,b⟩,?_,fun i d => ?_⟩
  ·unfold Dof
   rw [yd,yc (by omega)] at c ⊢;exact c
  ·unfold zae at d
   rw [b] at d;unfold zup at d;rw [yx] at d;obtain ⟨e,he,rfl⟩:=d;rw [yv] at he;exact h e (by simpa using he.1) he.2
 ·rintro ⟨⟨o,b⟩,c,h⟩
  have f : j < gops.size:=(yf.1 b).1;refine ⟨?_,o,b,fun e he g => h e.on ?_⟩
  ·unfold Dof at c
   rw [yd,yc (by omega)] at c ⊢;exact c
  ·unfold zae
   rw [b];unfold zup;rw [yx];exact ⟨e,by rw [yv]; exact ⟨by simpa using he,g⟩,rfl⟩
theorem zgw {a : Array Bool} (b : a.size = gops.size) {j : Nat} (c : j < gops.size) : Dof (a.setIfInBounds j true) = zaJ (Dof a) j:=by
 funext i
 show (a.setIfInBounds j true).getD i false = if i = j then true else a.getD i false
 rw [yd,yd,Array.getElem?_setIfInBounds]
 by_cases h : j = i
 ·subst h
  simp [b,c]
 ·rw [if_neg h,if_neg (fun e => h e.symm)]
theorem zol {D : Nat → Bool} (c : zfl gops D) {j : Nat} (d : ∀ i ∈ zae gops j,D i = true) : zfl gops (zaJ D j):=fun k a i b => by
 unfold zaJ at a ⊢;split
 ·rfl
 ·split at a
  ·rename_i e; subst e; exact d i b
  ·exact c k a i b
theorem zg8 {a : Array Bool} (g : a.size = gops.size) (k : ∀ j o,gops[j]? = some o → ∀ i ∈ zup o,i < j) : ∀ (n : Nat) ,n < gops.size → Dof a n = false → Region.ready .any gops a ≠ []:=by
 intro n
 induction n using Nat.strongRecOn with
 | _ n ih =>
   intro d hd f
   by_cases h : ∀ i ∈ zae gops n,Dof a i = true
   ·have : n ∈ Region.ready .any gops a:=(zif g).2 ⟨⟨gops[n],yc d⟩,hd,h⟩
    rw [f] at this;simp at this
   ·simp only [Classical.not_forall] at h
    obtain ⟨i,b,e⟩:=h
    have c : i < n:=by
     unfold zae at b;rw [yc d] at b;exact k n _ (yc d) i b
    exact ih i c (by omega) (by simpa using e) f
theorem zqF (pl : Plan P κ nt gops xs p) (hlen : ∀ D,(envD D).length = κ.length) (n : κ.Nodup) (m : ∀ t ∈ κ,t < nt) {D : Nat → Bool} {g : G} {w : World} {a : Act} (M : Mid gops xs κ nt p envD v σD g0 w0 σ0 D g w a) {j : Nat} (A : j ≤ p) {f : Nat → Option Tmp} (q : ∀ i t,i < j → f i = some t → D i = true ∧ lo gops xs i = some t) :
  Fr κ ((yi j).reverse.map f) nt g w ⟨(yi j).reverse.map v,envD D,σD D,b,l⟩ a:=by
 refine ⟨M.size,hlen D,fun i t z => M.slot i t z,fun d t hd _ => ?_,fun d t hd => ?_,n,m,M.df⟩
 ·have e : d < j:=by have:=za hd; simpa using this
  rw [zhu f e] at hd;injection hd with hd;obtain ⟨u,c⟩:=q _ t (by omega) hd;simp only [List.getD_eq_getElem?_getD,zhu v e,Option.getD_some];exact M.done _ t (by omega) u c
 ·have e : d < j:=by have:=za hd; simpa using this
  rw [zhu f e] at hd;injection hd with hd;obtain ⟨_,c⟩:=q _ t (by omega) hd;unfold lo at c;split at c
  ·rename_i o x s r
   have y:=pl.pre _ o x (by omega) s r;unfold zaH at c;split at c
   ·rename_i B k h
    injection c with c;subst c;have:=y;rw [k,h] at this;simp only [okD,yg,yq] at this;simpa using this.1
   ·cases c
  ·cases c
def left (D : Nat → Bool) (l : List Nat) : Nat:=(l.filter fun i => !D i).length
theorem zxf (D : Nat → Bool) (j : Nat) : ∀ l : List Nat,left (zaJ D j) l ≤ left D l
 | [] => yl _
 | x :: l => by
   have a:=zxf D j l;unfold left at a ⊢;simp only [ym]
   by_cases b : x = j
   ·subst b
    cases D x <;> simp [zaJ] at a ⊢ <;> omega
   ·have : zaJ D j x = D x:=by simp [zaJ,b]
    rw [this];cases D x <;> simp at a ⊢ <;> omega
theorem zsj (D : Nat → Bool) (j : Nat) (b : D j = false) : ∀ l : List Nat,j ∈ l → left (zaJ D j) l < left D l
 | [],h => by simp at h
 | x :: l,h => by
   have hle:=zxf D j l
   by_cases a : x = j
   ·subst a
    unfold left at hle ⊢;simp only [ym,b];simp [zaJ] at hle ⊢;omega
   ·have c:=zsj D j b l (by simpa [Ne.symm a] using h)
    unfold left at c ⊢;simp only [ym];have : zaJ D j x = D x:=(by simp [zaJ,a]);rw [this];cases D x <;> simp at c ⊢ <;> omega
theorem zqt {D : Nat → Bool} {n : Nat} (h : left D (yi n) = 0) : ∀ i,i < n → D i = true:=fun i a => by
 have:=List.eq_nil_of_length_eq_zero h;rw [List.filter_eq_nil_iff] at this;simpa using this i (by simpa using a)
variable {Q : Exit → Act → World → Prop} {Cf : zL}
theorem zrW {m : Nat} {o : Go.Oper} {x : Oper} (b : gops[m]? = some o) (a : xs[m]? = some x) : zfI gops xs (m + 1) = zaH o.dst x.dst :: zfI gops xs m:=by
 unfold zfI;rw [yw,List.reverse_append];simp [lo,b,a]
theorem zpy (S : zen P Cf) (pl : Plan P κ nt gops xs p) (q : ∀ i x,xs[i]? = some x → step Cf (rr i) x = some (rr (i + 1))) (e : ∀ g w a loc,Ext g0 w0 σ0 g w (rr gops.size).st → Rel g w (rr gops.size).st → Fr κ loc nt g w (rr gops.size) a → Q .normal a w) :
  ∀ (fuel m : Nat) (b : Array Bool) (g : G) (w : World) (a : Act),b.size = gops.size → p ≤ m → m ≤ gops.size → (∀ i,Dof b i = decide (i < m)) → gops.size ≤ m + fuel → Ext g0 w0 σ0 g w (rr m).st → Rel g w (rr m).st → Fr κ (zfI gops xs m) nt g w (rr m) a → wpAny P .any gops Q fuel b a w
 | fuel,m,b,g,w,a,hs,hpm,hm,hD,hf,H,R0,F => by
   have d : ∀ j,j ∈ Region.ready .any gops b → j = m ∧ j < gops.size:=fun j A => by
    obtain ⟨⟨o,n⟩,B,y⟩:=(zif hs).1 A;have c : j < gops.size:=(yf.1 n).1;rw [hD] at B;have O : ¬ j < m:=(by simpa using B);refine ⟨?_,c⟩;have r : xs[j]? = some (xs[j]'(by rw [pl.len]; exact c)):=yh (by rw [pl.len]; exact c);have s:=(pl.tail j o _ (by omega) n r).2.2.2
    have f : zfl gops (Dof b):=fun k C i t => by
     rw [hD] at C ⊢;have J : k < m:=(by simpa using C);unfold zae at t;split at t
     ·rename_i L z
      have:=pl.back k L z i t;simp; omega
     ·simp at t
    rcases yr m j with h | h
    ·have:=zaA f (s m h) y
     rw [hD] at this;simp at this
    ·omega
   have fin : Region.ready .any gops b = [] → Q .normal a w:=fun v => by
    have : m = gops.size:=by
     rcases yr m gops.size with h | h
     ·exact absurd v (zg8 hs pl.back m h (by rw [hD]; simp))
     ·omega
    subst this;exact e g w a _ H R0 F
   cases fuel with
   | zero =>
     have v : Region.ready .any gops b = []:=by
      cases M : Region.ready .any gops b with
      | nil => rfl
      | cons j l =>
        have:=d j (by rw [M]; simp);omega
     exact ⟨v,fin v⟩
   | succ fuel =>
     refine ⟨fin,fun j A => ?_⟩;obtain ⟨rfl,c⟩:=d j A;have n : gops[j]? = some gops[j]:=yc c;have r : xs[j]? = some (xs[j]'(by rw [pl.len]; exact c)):=yh (by rw [pl.len]; exact c);obtain ⟨y,D,E,_⟩:=pl.tail j _ _ hpm n r
     have key:=zcc (Q:=Q) (gops:=gops) (next:=wpAny P .any gops Q fuel (b.setIfInBounds j true)) S R0 F y D E (q j _ r) (fun g' w' u H1 N _ I =>
      zpy S pl q e fuel (j + 1) _ g' w' _ (by simpa using hs) (by omega) (by omega) (fun i => by
       rw [zgw hs c];unfold zaJ;split
       ·simp; omega
       ·rw [hD]
        rename_i K;simp only [decide_eq_decide]
        omega) (by omega) (H.trans H1) N (by rw [zrW n r]; exact I)) (fun _ h => h)
     unfold wpOp;simp only [n];split
     ·rename_i hw
      rw [if_pos hw] at key;exact .inl key
     ·rename_i hw
      rw [if_neg hw] at key;exact key
termination_by fuel => fuel
def Local (P : Program) (κ : List Tmp) (nt : Nat) (gops : Array Go.Oper) (xs : List Oper) (v : Nat → V) (envD : (Nat → Bool) → List V) (σD : (Nat → Bool) → zb) (p b l : Nat) : Prop :=
 ∀ (j : Nat) (o : Go.Oper) (x : Oper) (D : Nat → Bool) (g : G) (w : World) (a : Act) (next : Act → World → Prop) (Q : Exit → Act → World → Prop),j < p → gops[j]? = some o → xs[j]? = some x → D j = false → (∀ i ∈ zae gops j,D i = true) → zfl gops D → (∀ i,p ≤ i → D i = false) → Rel g w (σD D) →
   Fr κ (zdi gops xs j) nt g w ⟨(yi j).reverse.map v,envD D,σD D,b,l⟩ a →
   (∀ g' w' u,Ext g w (σD D) g' w' (σD (zaJ D j)) → Rel g' w' (σD (zaJ D j)) → Fr κ (zaH o.dst x.dst :: zdi gops xs j) nt g' w' ⟨v j :: (yi j).reverse.map v,envD (zaJ D j),σD (zaJ D j),b,l⟩ (a.put o.dst u) → next (a.put o.dst u) w') →
   if Region.wanted o (yielded gops a.tmps) then o.wp P a w next Q else next (a.put o.dst undef) w
theorem zmQ (pl : Plan P κ nt gops xs p) {i : Nat} {t : Tmp} (d : i < p) (h : lo gops xs i = some t) : t ∉ κ:=by
 unfold lo at h;split at h
 ·rename_i o x e f
  have c:=pl.pre _ o x d e f;unfold zaH at h;split at h
  ·rename_i g a b
   injection h with h;subst h;rw [a,b] at c;simp only [okD,yg,yq] at c;simpa using c.1
  ·cases h
 ·cases h
theorem zsp (S : zen P Cf) (pl : Plan P κ nt gops xs p) (LS : Local P κ nt gops xs v envD σD p b l) (Y : ∀ i x,xs[i]? = some x → step Cf (rr i) x = some (rr (i + 1)))
  (aI : (rr p).rs = (yi p).reverse.map v) (hlen : ∀ D,(envD D).length = κ.length) (N : κ.Nodup) (L : ∀ t ∈ κ,t < nt)
  (I : ∀ D,(∀ i,D i = decide (i < p)) → σD D = (rr p).st ∧ envD D = (rr p).env)
  (B : ∀ g w a loc,Ext g0 w0 σ0 g w (rr gops.size).st → Rel g w (rr gops.size).st → Fr κ loc nt g w (rr gops.size) a → Q .normal a w) :
  ∀ (fuel : Nat) (c : Array Bool) (g : G) (w : World) (a : Act),c.size = gops.size → (∀ i,p ≤ i → Dof c i = false) → zfl gops (Dof c) → left (Dof c) (yi gops.size) ≤ fuel → Mid gops xs κ nt p envD v σD g0 w0 σ0 (Dof c) g w a → wpAny P .any gops Q fuel c a w
 | fuel,c,g,w,a,hs,hp,hcl,hf,M => by
   by_cases k : ∀ i,i < p → Dof c i = true
   ·have W : ∀ i,Dof c i = decide (i < p):=fun i => by
     by_cases r : i < p
     ·simp [r,k i r]
     ·simp [r,hp i (by omega)]
    obtain ⟨aF,aJ⟩:=I _ W;have H:=M.ext;have R0:=M.rel;rw [aF] at H R0;have s:=zqF (b:=b) (l:=l) pl hlen N L M (yl p) (f:=lo gops xs) (fun i t r m => ⟨k i r,m⟩);rw [aF,aJ,← aI] at s;have F : Fr κ (zfI gops xs p) nt g w (rr p) a:=⟨s.size,s.len,s.env,s.lc,s.lk,s.nd,s.bd,s.df⟩;refine zpy S pl Y B fuel p c g w a hs (yl _) pl.p_le W ?_ H R0 F
    have z : ∀ n,n ≤ gops.size → n ≤ p + left (Dof c) (yi n):=fun n => by
     induction n with
     | zero => intro _; omega
     | succ n ih =>
       intro hn;have:=ih (by omega);unfold left at this ⊢;rw [yw,List.filter_append,List.length_append]
       by_cases aK : n < p
       ·omega
       ·have O:=hp n (by omega)
        simp [O];omega
    have:=z gops.size (yl _);omega
   ·have y : ∀ j,j ∈ Region.ready .any gops c → j < p ∧ j < gops.size ∧ Dof c j = false ∧ ∀ i ∈ zae gops j,Dof c i = true:=fun j hj => by
     obtain ⟨⟨o,C⟩,O,U⟩:=(zif hs).1 hj;have d : j < gops.size:=(yf.1 C).1;refine ⟨?_,d,O,U⟩;rcases yr j p with h | h
     ·exact h
     ·have R : xs[j]? = some (xs[j]'(by rw [pl.len]; exact d)):=yh (by rw [pl.len]; exact d)
      have aE:=(pl.tail j o _ h C R).2.2.2;exact absurd (fun i r => zaA hcl (aE i (by omega)) U) k
    obtain ⟨i0,V⟩:=Classical.not_forall.1 k;obtain ⟨V,aA⟩:=Classical.not_imp.1 V;have X : Region.ready .any gops c ≠ []:=zg8 hs pl.back i0 (by have:=pl.p_le; omega) (by simpa using aA)
    cases fuel with
    | zero =>
      have:=zqt (Nat.le_zero.1 hf) i0 (by have:=pl.p_le; omega);exact absurd this aA
    | succ fuel =>
      refine ⟨fun hr => absurd hr X,fun j hj => ?_⟩;obtain ⟨A,d,O,U⟩:=y j hj;have C : gops[j]? = some gops[j]:=yc d;have R : xs[j]? = some (xs[j]'(by rw [pl.len]; exact d)):=yh (by rw [pl.len]; exact d);have hd:=pl.pre j _ _ A C R
      have F:=zqF (b:=b) (l:=l) pl hlen N L M (Nat.le_of_lt A) (f:=zxA gops xs j) (fun i t r m => by
       unfold zxA at m;split at m
       ·rename_i hc
        exact ⟨U i (by simpa using hc),m⟩
       ·cases m)
      have key:=LS j _ _ (Dof c) g w a (wpAny P .any gops Q fuel (c.setIfInBounds j true)) Q A C R O U hcl hp M.rel F (fun g' w' u H1 R1 F1 =>
       zsp S pl LS Y aI hlen N L I B fuel _ g' w' _ (by simpa using hs) (fun i r => by
        rw [zgw hs d];unfold zaJ;split
        ·omega
        ·exact hp i r) (by rw [zgw hs d]; exact zol hcl U) (by
        rw [zgw hs d];have:=zsj (Dof c) j O (yi gops.size) (by simpa using d)
        omega) (by
        rw [zgw hs d];refine ⟨M.ext.trans H1,R1,F1.size,F1.df,fun i t m => ?_,fun i t r aC m => ?_⟩
        ·exact F1.env i t m
        ·by_cases J : i = j
         ·subst J
          have K : zaH gops[i].dst (xs[i]'(by rw [pl.len]; exact d)).dst = some t:=by
           unfold lo at m;rw [C,R] at m;exact m
          have:=F1.lc 0 t (by simp [K]) (by simp);simpa using this
         ·have aG : Dof c i = true:=by
           unfold zaJ at aC
           rwa [if_neg J] at aC
          have hold:=H1.ze _ _ (M.done i t r aG m)
          have Z : (a.put gops[j].dst u).tmps.getD t undef = a.tmps.getD t undef:=by
           cases E : gops[j].dst with
           | none => rfl
           | some t' =>
             have aB : t' ≠ t:=fun e => by
              subst e;rw [E] at hd;unfold okD at hd;split at hd
              ·rename_i heq _; cases heq
              ·
               rename_i t2 heq aH;injection heq with heq;subst heq
               have aD : lo gops xs j = some t':=by
                unfold lo;rw [C,R];simp [zaH,E,aH]
               exact J (pl.apart i j t' r A m aD)
              ·
               rename_i t2 q heq aH;injection heq with heq;subst heq;have hk : t' ∈ κ:=List.mem_of_getElem? (by simpa using hd);have K:=zmQ pl r m;exact K hk
              ·cases hd
             simp only [Act.put,zfj];rw [if_neg (by simp [aB])]
          rw [Z]
          exact hold))
      unfold wpOp;simp only [C];split
      ·rename_i hw
       rw [if_pos hw] at key;exact .inl key
      ·rename_i hw
       rw [if_neg hw] at key;exact key
termination_by fuel => fuel
end
def zAj : Option X → List X
 | some x => [x]
 | none => []
def opX : Op → List X
 | .mv x | .un _ x | .conv _ x | .len x | .fa _ x | .ld _ x | .box _ x | .ext x _ | .fld _ _ x | .nil x | .mks _ _ x | .mkc _ x => [x]
 | .pick c a b => [c,a,b]
 | .cpy _ x y | .bin _ x y | .eqa _ _ x y | .beq _ x y | .ia _ x y | .iaa _ _ x y | .st _ x y | .app _ x y | .lk _ _ x y | .mxn _ x y => [x,y]
 | .al _ _ | .nl _ _ | .mkm | .no _ => []
 | .bld _ parts _ => parts.map fun p => p.2.2
 | .bsl _ _ _ parts => parts.map fun p => p.2
 | .slc _ x lo hi mx => x :: (zAj lo ++ zAj hi ++ zAj mx)
 | .mkf _ first caps => first ++ caps
 | .mu m k v => [m,k,v]
 | .call _ f args => f :: args
def zar : Op → Nat
 | .mv _ | .pick .. | .bin .. | .eqa .. | .beq .. | .un .. | .conv .. | .len _ | .fa .. | .iaa .. | .ext .. | .fld .. | .nil _ | .mkf .. | .mxn .. => 0
 | .bsl .fz _ _ _ => 0
 | .nl .fz _ => 0
 | .bld _ _ [] => 0
 | .ia .. | .slc .. => 1
 | .ld .. | .lk .. => 2
 | .call .cl _ _ => 2
 | .st .. => 3
 | .al .. | .box .. | .mks .. | .mkc .. | .mkm | .nl .. | .bsl .. | .bld .. => 4
 | _ => 5
section
variable {Cf : zL} {r r' r1 : R} {d : D}
theorem zoP {x : Option V} {r1 : R} (h : x.map (r.put d) = some r1) : ∃ v,x = some v ∧ r1 = r.put d v:=by
 rw [yb] at h;obtain ⟨v,b,a⟩:=h;exact ⟨v,b,a.symm⟩
theorem zmr {a : Nat} {x : Option X} (h : ∀ y ∈ zAj x,r'.get y = r.get y) : bound r' a x = bound r a x:=by
 cases x with
 | none => rfl
 | some y => simp [bound,h y (by simp [zAj])]
theorem zjn : ∀ {a : List (Nat × Nat × X)} {cs : List C},(∀ y ∈ a.map (fun p => p.2.2),r'.get y = r.get y) → zkD r' a cs = zkD r a cs
 | [],_,_ => rfl
 | (off,sz,x) :: a,cs,h => by
   simp only [zkD,h x (by simp)]
   congr 1
   exact congrArg _ (funext fun c => zjn fun y b => h y (by simp at b ⊢; exact .inr b))
theorem zji {sz : Nat} : ∀ {a : List (Nat × X)} {cs : List (List C)},(∀ y ∈ a.map (fun p => p.2),r'.get y = r.get y) → zlH r' sz a cs = zlH r sz a cs
 | [],_,_ => rfl
 | (i,x) :: a,cs,h => by
   simp only [zlH,h x (by simp)]
   congr 1
   exact zji fun y b => h y (by simp at b ⊢; exact .inr b)
theorem zf2 : ∀ {ys : List X},(∀ y ∈ ys,r'.get y = r.get y) → r'.gets ys = r.gets ys
 | [],_ => rfl
 | y :: ys,h => by
   have b:=zf2 (ys:=ys) fun z a => h z (yo _ a);simp only [R.gets,h y (by simp),b]
structure Same (n : Nat) (σ σ' : zb) : Prop where
 get : ∀ id o,id < n → σ[id]? = some o → σ'[id]? = some o
structure SameRow (n : Nat) (σ σ' : zb) : Prop where
 row : ∀ id ver sz o,id < n → σ[id]? = some o → o.isRow ver sz = true → ∃ o',σ'[id]? = some o' ∧ o'.isRow ver sz = true
theorem Same.rows {n : Nat} {σ σ' : zb} (h : Same n σ σ') : SameRow n σ σ':=⟨fun id d sz o a b c => ⟨o,h.get id o a b,c⟩⟩
theorem zye {n : Nat} {σ σ' : zb} (h : Same n σ σ') {v v' : V} (e : v.lt n = true) (a : zAP σ v = some v') : zAP σ' v = some v':=by
 unfold zAP at a ⊢;split at a
 ·rename_i id f lo m
  have c : id < n:=by simpa [V.lt,C.lt] using e
  rw [yb] at a ⊢;obtain ⟨xs,b,d⟩:=a;rw [ya] at b;obtain ⟨o,b,g⟩:=b;exact ⟨xs,by rw [ya]; exact ⟨o,h.get id o c b,g⟩,d⟩
 all_goals exact a
theorem zoU {n : Nat} {σ σ' : zb} (h : Same n σ σ') : ∀ {vs a : List V},V.lts n vs = true → znY σ vs = some a → znY σ' vs = some a
 | [],_,_,hv => hv
 | v :: vs,a,hl,hv => by
   simp only [V.lts,yg] at hl;simp only [znY] at hv ⊢;obtain ⟨y,z,c,b,rfl⟩:=zdY hv;rw [zye h hl.1 c,zoU h hl.2 b];rfl
theorem zk3 {n : Nat} : ∀ {a b : List V},V.lts n (a ++ b) = (V.lts n a && V.lts n b)
 | [],b => by simp [V.lts]
 | v :: a,b => by simp [V.lts,zk3 (a:=a),Bool.and_assoc]
theorem zse {n : Nat} : ∀ {cs : List C},V.lts n (cs.map V.one) = C.lts n cs
 | [] => rfl
 | c :: cs => by simp [V.lts,V.lt,C.lts,zse (cs:=cs)]
theorem zuj {n : Nat} : ∀ {ys : List X},(∀ y ∈ ys,(r.get y).lt n = true) → V.lts n (r.gets ys) = true
 | [],_ => rfl
 | y :: ys,h => by
   have b:=zuj (ys:=ys) fun z a => h z (yo _ a);simp [R.gets,V.lts,h y (by simp),b]
theorem zk4 {op : Op} {n : Nat} (D : zar op ≤ 2) (l : ∀ x ∈ opX op,r'.get x = r.get x) (G : ∀ x ∈ opX op,(r.get x).lt n = true) (S : zar op = 1 → SameRow n r.st r'.st) (M : zar op = 2 → Same n r.st r'.st) (h : zaF Cf r d op = some r1) :
  ∃ v,r1 = r.put d v ∧ zaF Cf r' d op = some (r'.put d v):=by
 have one : ∀ {x : Option V},x.map (r.put d) = some r1 → ∀ {y : Option V},(∀ v,x = some v → y = some v) → ∃ v,r1 = r.put d v ∧ y.map (r'.put d) = some (r'.put d v):=fun {x} hx {y} A => by
  obtain ⟨v,I,e2⟩:=zoP hx;exact ⟨v,e2,by rw [A v I]; rfl⟩
 cases op <;> simp only [zaF] at h ⊢ <;> simp only [opX,yt,yu,or_false,forall_eq_or_imp,forall_eq] at l G
 case mv x => injection h with h; exact ⟨_,h.symm,by rw [l]⟩
 case pick c x y => rw [l.1,l.2.1,l.2.2]; exact one h fun _ e => e
 case bin o x y => rw [l.1,l.2]; exact one h fun _ e => e
 case beq neg x y => rw [l.1,l.2]; exact one h fun _ e => e
 case eqa n neg x y => rw [l.1,l.2]; exact one h fun _ e => e
 case un o x => rw [l]; exact one h fun _ e => e
 case conv k x => rw [l]; exact one h fun _ e => e
 case len x => rw [l]; exact one h fun _ e => e
 case fa off x => rw [l]; exact one h fun _ e => e
 case iaa n' sz x i => rw [l.1,l.2]; exact one h fun _ e => e
 case ext x i => rw [l]; exact one h fun _ e => e
 case fld off sz x => rw [l]; exact one h fun _ e => e
 case nil x => rw [l]; exact one h fun _ e => e
 case mxn b x y => rw [l.1,l.2]; exact one h fun _ e => e
 case mkf f first E =>
  injection h with h;rw [zf2 (r:=r) (r':=r') fun y A => l y (yj _ A),zf2 (r:=r) (r':=r') fun y A => l y (yn _ A)];exact ⟨_,h.symm,rfl⟩
 case ia sz x i =>
  rw [l.1,l.2];refine one h fun v e => ?_;have z:=S rfl;unfold aia at e ⊢;split at e
  ·rename_i id u lo m X q heq _
   split at e
   ·rename_i H
    rw [if_pos H];rw [ya] at e ⊢;obtain ⟨o,I,e2⟩:=e;unfold zqL at e2;split at e2
    ·rename_i Y
     have t : id < n:=by
      have:=G.1;rw [heq] at this;simpa [V.lt,C.lt] using this
     obtain ⟨Q,s,p⟩:=z.row id u sz o t I Y;exact ⟨Q,s,by unfold zqL; rw [if_pos p]; exact e2⟩
    ·cases e2
   ·cases e
  all_goals exact e
 case slc sz x lo hi mx =>
  have z:=S rfl;have I:=l.1
  have hm : zyU r' hi mx = zyU r hi mx:=by
   cases mx with
   | none => rfl
   | some m => cases hi with
     | none => rfl
     | some hh =>
       have s:=l.2 m (by simp [zAj]);have p:=l.2 hh (by simp [zAj]);simp only [zyU,s,p]
  by_cases D : zyU r hi mx = true
  case neg => rw [if_neg D] at h; cases h
  rw [if_pos D] at h;rw [if_pos (hm.trans D)];refine one h fun v e => ?_;have b1 : ∀ d,bound r' d lo = bound r d lo:=fun d => zmr fun y A => l.2 y (yj _ (yj _ A));have b2 : ∀ d,bound r' d hi = bound r d hi:=fun d => zmr fun y A => l.2 y (yj _ (yn _ A));rw [I];unfold zBX at e ⊢;split at e
  ·rw [b1,b2]; exact e
  ·rw [b1,b2]; exact e
  ·rename_i id u U m heq
   rw [b1,b2];split at e
   ·cases e
   ·rename_i P
    rw [if_neg P];obtain ⟨a,b,s,p,w⟩:=zl7 e;rw [s,p]
    show zwh r'.st sz id u U m a b = some v
    unfold zwh at w ⊢;split at w
    ·rename_i H
     have t : id < n:=by
      have:=G.1;rw [heq] at this;simpa [V.lt,C.lt] using this
     have K : (r'.st[id]?).any (Ob.isRow u sz) = true:=by
      have:=H.2.2
      cases O : r.st[id]? with
      | none => simp [O] at this
      | some o =>
        simp [O] at this;obtain ⟨Q,B,W⟩:=z.row id u sz o t O this;simp [B,W]
     rw [if_pos ⟨H.1,H.2.1,K⟩];exact w
    ·cases w
  ·cases e
 case ld sz x =>
  have J:=M rfl;rw [l];refine one h fun v e => ?_
  have key : ∀ {id u i : Nat} {el : List C},id < n → r.st.elem id u i = some el → r'.st.elem id u i = some el:=fun {id u i el} t he => by
   unfold zb.elem at he ⊢;rw [ya] at he ⊢;obtain ⟨o,s,p⟩:=he;exact ⟨o,J.get id o t s,p⟩
  unfold ald at e ⊢;split at e
  ·rename_i id u i off heq
   have t : id < n:=by
    have:=G;rw [heq] at this;simpa [V.lt,C.lt] using this
   rw [yb] at e ⊢;obtain ⟨c,s,p⟩:=e;unfold zb.cell at s ⊢;rw [ya] at s;obtain ⟨el,w,B⟩:=s;exact ⟨c,by rw [ya]; exact ⟨el,key t w,B⟩,p⟩
  ·exact e
  ·rename_i m id u i off heq
   have t : id < n:=by
    have:=G;rw [heq] at this;simpa [V.lt,C.lt] using this
   rw [yb] at e ⊢;obtain ⟨c,s,p⟩:=e;rw [ya] at s;obtain ⟨el,w,B⟩:=s;exact ⟨c,by rw [ya]; exact ⟨el,key t w,B⟩,p⟩
  ·exact e
  ·cases e
 case lk zero ok m k =>
  have J:=M rfl;rw [l.1,l.2];refine one h fun v e => ?_;unfold alk at e ⊢;split at e
  ·rename_i id X heq _
   have t : id < n:=by
    have:=G.1;rw [heq] at this;simpa [V.lt,C.lt] using this
   rw [yb] at e ⊢;obtain ⟨es,s,p⟩:=e;rw [ya] at s;obtain ⟨o,w,B⟩:=s;exact ⟨es,by rw [ya]; exact ⟨o,J.get id o t w,B⟩,p⟩
  ·exact e
  ·cases e
 case call m f args =>
  cases m
  case cl =>
   have J:=M rfl;have I:=l.1;have e2:=zf2 (r:=r) (r':=r') (ys:=args) l.2;rw [I,e2];unfold zlP at h ⊢;split at h
   ·rename_i g first E heq
    simp only at h ⊢;rw [ya] at h;obtain ⟨x,s,p⟩:=h;rw [ya] at s;obtain ⟨aS,w,B⟩:=s
    have N : V.lts n (first.map V.one ++ (r.gets args ++ E.map V.one)) = true:=by
     have L:=G.1;rw [heq] at L;simp only [V.lt,C.lt,yg] at L;rw [zk3,zk3,zse,zse,zuj G.2,L.1,L.2];rfl
    rw [zoU J N w];simp only [ye,B];unfold ztj at p ⊢;split at p
    ·rename_i H
     injection p with p;exact ⟨_,p.symm,by rw [if_pos H]⟩
    ·cases p
   ·cases h
  all_goals (simp only [zar] at D; omega)
 case bsl b sz zero parts =>
  cases b <;> simp only [zar] at D
  case fz =>
   rw [zji (r:=r) (r':=r') l];rw [ya] at h;obtain ⟨es,s,p⟩:=h;simp only [zt4,yb] at p;obtain ⟨xs,p,w⟩:=p;exact ⟨vsl xs,w.symm,by rw [s]; simp only [ye,zt4,p,yk,zBb]⟩
  all_goals omega
 case nl b sz =>
  cases b <;> simp only [zar] at D
  case fz =>
   simp only [anl,Option.some.injEq] at h ⊢;exact ⟨_,h.symm,rfl⟩
  all_goals omega
 case bld zero parts fresh =>
  cases fresh with
  | nil =>
    rw [zjn (r:=r) (r':=r') l];rw [yb] at h;obtain ⟨cs,s,p⟩:=h;simp only [zee] at s ⊢;refine ⟨.agg cs,?_,by rw [s]; simp [zBB,tokens,R.allocs]⟩;rw [← p];simp [zBB,tokens,R.allocs]
  | cons j js => simp only [zar] at D; omega
 all_goals (simp only [zar] at D; omega)
end
mutual
theorem exC : ∀ c : C,∃ n,∀ m,n ≤ m → c.lt m = true
 | .f _ => ⟨0,fun _ _ => by simp [C.lt]⟩
 | .ap t _ _ => ⟨t + 1,fun _ h => by simp [C.lt]; omega⟩
 | .ptr id _ _ _ => ⟨id + 1,fun _ h => by simp [C.lt]; omega⟩
 | .fp _ _ => ⟨0,fun _ _ => by simp [C.lt]⟩
 | .own id _ _ _ => ⟨id + 1,fun _ h => by simp [C.lt]; omega⟩
 | .map id => ⟨id + 1,fun _ h => by simp [C.lt]; omega⟩
 | .fn _ a b => by
   obtain ⟨n,e⟩:=zCN a;obtain ⟨m,d⟩:=zCN b;exact ⟨max n m,fun k g => by simp only [C.lt,yg]; exact ⟨e k (by omega),d k (by omega)⟩⟩
 | .un => ⟨0,fun _ _ => by simp [C.lt]⟩
theorem zCN : ∀ cs : List C,∃ n,∀ m,n ≤ m → C.lts m cs = true
 | [] => ⟨0,fun _ _ => rfl⟩
 | c :: cs => by
   obtain ⟨n,b⟩:=exC c;obtain ⟨m,a⟩:=zCN cs;exact ⟨max n m,fun k d => by simp only [C.lts,yg]; exact ⟨b k (by omega),a k (by omega)⟩⟩
end
mutual
theorem exV : ∀ c : V,∃ n,∀ m,n ≤ m → c.lt m = true
 | .one c => by
   obtain ⟨n,h⟩:=exC c;exact ⟨n,fun m hm => by simp only [V.lt]; exact h m hm⟩
 | .agg cs => by
   obtain ⟨n,h⟩:=zCN cs;exact ⟨n,fun m hm => by simp only [V.lt]; exact h m hm⟩
 | .tup vs => by
   obtain ⟨n,h⟩:=zDK vs;exact ⟨n,fun m hm => by simp only [V.lt]; exact h m hm⟩
theorem zDK : ∀ cs : List V,∃ n,∀ m,n ≤ m → V.lts m cs = true
 | [] => ⟨0,fun _ _ => rfl⟩
 | c :: cs => by
   obtain ⟨n,b⟩:=exV c;obtain ⟨m,a⟩:=zDK cs;exact ⟨max n m,fun k d => by simp only [V.lts,yg]; exact ⟨b k (by omega),a k (by omega)⟩⟩
end
theorem exX (f : X → V) : ∀ xs : List X,∃ n,∀ m,n ≤ m → ∀ x ∈ xs,(f x).lt m = true
 | [] => ⟨0,fun _ _ x h => by simp at h⟩
 | x :: xs => by
   obtain ⟨n,c⟩:=exV (f x);obtain ⟨m,b⟩:=exX f xs;refine ⟨max n m,fun k d y a => ?_⟩;rcases yt.1 a with rfl | a
   ·exact c k (by omega)
   ·exact b k (by omega) y a
section
variable {Cf : zL} {r r' r1 : R} {d : D}
def R.at (r : R) (σ : zb) : R:={ r with st:=σ }
def zzf (c : Nat) (σ σ1 : zb) : Prop:=(c ≤ 2 → σ1 = σ) ∧ (c = 3 → σ1.length = σ.length ∧ ∀ n,SameRow n σ σ1 ∧ SameRow n σ1 σ) ∧ (c = 4 → ∃ os,σ1 = σ ++ os)
theorem ztV {op : Op} (t : ∀ x ∈ opX op,r'.get x = r.get x) (a : r'.st = r.st) (h : zaF Cf r d op = some r1) :
  ∃ v σ1,r1 = (r.at σ1).put d v ∧ zaF Cf r' d op = some ((r'.at σ1).put d v) ∧ zzf (zar op) r.st σ1:=by
 by_cases D : zar op ≤ 2
 ·
  obtain ⟨n,C⟩:=exX r.get (opX op);obtain ⟨v,l,c⟩:=zk4 (n:=n) D t (C n (yl _)) (fun _ => by rw [a]; exact ⟨fun id I sz o _ u z => ⟨o,u,z⟩⟩) (fun _ => by rw [a]; exact ⟨fun id o _ u => u⟩) h;refine ⟨v,r.st,l,?_,fun _ => rfl,fun h => by omega,fun h => by omega⟩;rw [c,← a];rfl
 ·have e4 : ∀ {os : List Ob},zar op = 4 → zzf (zar op) r.st (r.st ++ os):=fun {os} q => ⟨fun h => by omega,fun h => by omega,fun _ => ⟨os,rfl⟩⟩
  have e5 : ∀ {σ1 : zb},zar op = 5 → zzf (zar op) r.st σ1:=fun {σ1} q => ⟨fun h => by omega,fun h => by omega,fun h => by omega⟩
  have anl' : ∀ {b : B} {sz : Nat},b ≠ .fz → anl r d sz b = some r1 → ∃ v os,r1 = (r.at (r.st ++ os)).put d v ∧ anl r' d sz b = some ((r'.at (r.st ++ os)).put d v):=fun {b sz} hb C => by
   cases b with
   | fz => exact absurd rfl hb
   | tk =>
     simp only [anl,Option.some.injEq] at C ⊢;exact ⟨_,_,C.symm,by simp only [R.alloc,R.at,a]⟩
   | rw =>
     simp only [anl,Option.some.injEq] at C ⊢;exact ⟨_,_,C.symm,by simp only [R.alloc,R.at,a]⟩
  cases op <;> simp only [zaF] at h ⊢ <;> simp only [opX,yt,yu,or_false,forall_eq_or_imp,forall_eq] at t
  case st sz x v =>
   rw [t.1,t.2];rw [yb] at h;obtain ⟨L,h,rfl⟩:=h;unfold ast at h ⊢;split at h
   ·rename_i id I i off heq
    split at h
    ·rename_i O
     rw [if_pos O];unfold R.write at h ⊢;split at h
     ·rename_i J
      rw [if_pos J,a];rw [yb] at h;obtain ⟨P,l,rfl⟩:=h;rw [l];refine ⟨vun,r.st.set id P,rfl,by simp only [yk,R.setOb,R.at,a],fun h => by simp [zar] at h,fun _ => ⟨by simp,fun n => ⟨⟨fun A w E o _ u z => ?_⟩,⟨fun A w E o _ u z => ?_⟩⟩⟩,fun h => by simp [zar] at h⟩
      ·rw [ya] at l
       obtain ⟨K,c,p⟩:=l
       by_cases e : A = id
       ·subst e
        rw [c] at u;injection u with u;subst u;unfold Ob.write at p;split at p
        ·split at p
         ·rw [yb] at p
          obtain ⟨M,_,rfl⟩:=p;exact ⟨_,zn c,by simpa [Ob.isRow,upd] using z⟩
         ·cases p
        ·cases p
       ·exact ⟨o,by rw [yp (Ne.symm e)]; exact u,z⟩
      ·rw [ya] at l
       obtain ⟨K,c,p⟩:=l
       by_cases e : A = id
       ·subst e
        rw [zn c] at u;injection u with u;subst u;refine ⟨K,c,?_⟩;unfold Ob.write at p;split at p
        ·split at p
         ·rw [yb] at p
          obtain ⟨M,_,rfl⟩:=p;simpa [Ob.isRow,upd] using z
         ·cases p
        ·cases p
       ·exact ⟨o,by rw [yp (Ne.symm e)] at u; exact u,z⟩
     ·cases h
    ·cases h
   ·cases h
  case al zero fresh =>
   injection h with h;exact ⟨_,_,h.symm,by simp only [aal,R.allocs,R.at,a],e4 rfl⟩
  case box sz x =>
   rw [t];split at h
   ·rename_i q
    injection h with h;exact ⟨_,_,h.symm,by rw [if_pos q]; simp only [R.alloc,R.at,a],e4 rfl⟩
   ·cases h
  case mks zero fresh n =>
   rw [t];unfold zBC at h ⊢;split at h
   ·split at h
    ·rename_i q
     injection h with h;exact ⟨_,_,h.symm,by rw [if_pos q]; simp only [R.alloc,R.at,a],e4 rfl⟩
    ·cases h
   ·split at h
    ·rename_i q
     injection h with h;exact ⟨_,_,h.symm,by rw [if_pos q]; simp only [R.allocs,R.at,a],e4 rfl⟩
    ·cases h
   ·cases h
  case mkc sz n =>
   rw [t];unfold zCr at h ⊢;split at h
   ·split at h
    ·rename_i q
     injection h with h;exact ⟨_,_,h.symm,by rw [if_pos q]; simp only [R.alloc,R.at,a],e4 rfl⟩
    ·cases h
   ·cases h
  case mkm =>
   injection h with h;exact ⟨_,_,h.symm,by simp only [R.alloc,R.at,a],e4 rfl⟩
  case nl b sz =>
   cases b
   case fz => simp [zar] at D
   case tk => obtain ⟨v,os,l,c⟩:=anl' (by simp) h; exact ⟨v,_,l,c,e4 rfl⟩
   case rw => obtain ⟨v,os,l,c⟩:=anl' (by simp) h; exact ⟨v,_,l,c,e4 rfl⟩
  case bsl b sz zero parts =>
   rw [zji (r:=r) (r':=r') t];rw [ya] at h;obtain ⟨es,l,c⟩:=h;rw [l];cases b
   case fz => simp [zar] at D
   case tk =>
    simp only [zt4,yb] at c;obtain ⟨xs,c,rfl⟩:=c;exact ⟨_,_,rfl,by simp only [ye,zt4,c,yk,zw8,R.alloc,R.at,a],e4 rfl⟩
   case rw =>
    simp only [zt4,Option.some.injEq] at c;subst c;exact ⟨_,_,rfl,by simp only [ye,zt4,R.alloc,R.at,a],e4 rfl⟩
  case bld zero parts fresh =>
   rw [zjn (r:=r) (r':=r') t,a];rw [yb] at h;obtain ⟨cs,l,rfl⟩:=h;rw [l];refine ⟨.agg cs,r.st ++ tokens fresh,rfl,by simp only [yk,zBB,R.allocs,R.at,a],e4 ?_⟩
   cases fresh with
   | nil => simp [zar] at D
   | cons j js => rfl
  case cpy sz s x =>
   rw [t.1,t.2,a];rw [ya] at h;obtain ⟨ys,l,c⟩:=h;rw [l];simp only [ye];split at c
   ·rename_i y
    rw [if_pos y];unfold zB4 at c ⊢;split at c
    ·split at c
     ·cases c
     ·rename_i J
      simp only [if_neg J];rw [ya] at c;obtain ⟨o,p,g⟩:=c;rw [a,p];simp only [ye]
      cases o with
      | tok _ _ => simp [zhC] at g
      | mp _ => simp [zhC] at g
      | cells w E es =>
        simp only [zhC] at g ⊢;split at g
        ·rename_i q
         injection g with g;exact ⟨_,_,g.symm,by rw [if_pos q]; simp only [R.setOb,R.at,a],e5 rfl⟩
        ·cases g
    ·cases c
   ·cases c
  case app sz s x =>
   rw [t.1,t.2,a];rw [ya] at h;obtain ⟨ys,l,c⟩:=h;rw [l];simp only [ye];split at c
   ·rename_i y
    rw [if_pos y];unfold zAy at c ⊢;split at c
    ·rw [ya] at c
     obtain ⟨o,p,g⟩:=c;rw [a,p];simp only [ye];unfold zlG at g ⊢;split at g
     ·rename_i q
      injection g with g;exact ⟨_,_,g.symm,by rw [if_pos q]; simp only [R.setOb,R.at,a],e5 rfl⟩
     ·cases g
    ·rw [ya] at c
     obtain ⟨o,p,g⟩:=c;rw [a,p];simp only [ye];unfold zrg at g ⊢;split at g
     ·rename_i q
      injection g with g;exact ⟨_,_,g.symm,by rw [if_pos q]; simp only [R.setOb,R.at,a],e5 rfl⟩
     ·rename_i H
      split at g
      ·rename_i q
       injection g with g;exact ⟨_,_,g.symm,by rw [if_neg H,if_pos q]; simp only [R.at,← a],e5 rfl⟩
      ·cases g
    ·split at c
     ·rename_i q
      injection c with c;exact ⟨_,_,c.symm,by rw [if_pos q]; simp only [R.alloc,R.at,a],e5 rfl⟩
     ·cases c
    ·cases c
   ·cases c
  case mu m k v =>
   rw [t.1,t.2.1,t.2.2];rw [yb] at h;obtain ⟨L,h,rfl⟩:=h;unfold amu at h ⊢;split at h
   ·rw [yb] at h
    obtain ⟨es,l,rfl⟩:=h;rw [a,l];exact ⟨vun,_,rfl,by simp only [yk,zCx,R.setOb,R.at,a],e5 rfl⟩
   ·cases h
  case call m f args =>
   have N:=t.1;have e2:=zf2 (r:=r) (r':=r') (ys:=args) t.2;rw [N,e2];unfold zlP at h ⊢;split at h
   ·cases m
    case cl => simp [zar] at D
    case ck =>
     simp only at h ⊢;split at h
     ·cases h
     ·rename_i G
      rw [if_neg G,a];rw [yb] at h;obtain ⟨x,l,rfl⟩:=h;rw [l];exact ⟨_,_,rfl,by simp only [yk,zt2,R.at,a],e5 rfl⟩
    case op =>
     simp only at h ⊢;rw [a];rw [yb] at h;obtain ⟨x,l,rfl⟩:=h;rw [l];exact ⟨_,_,rfl,by simp only [yk,ztp,R.at],e5 rfl⟩
   ·cases h
  all_goals first
   | (simp [zar] at D; done)
   | (cases h; done)
def zcP (x : Oper) : List X:=opX x.op ++ (match x.guard with
 | some (y,_) => [y]
 | none => [])
theorem zdH {x : Oper} {n : Nat} (i : zar x.op ≤ 2) (c : ∀ y ∈ zcP x,r'.get y = r.get y) (j : ∀ y ∈ zcP x,(r.get y).lt n = true) (k : zar x.op = 1 → SameRow n r.st r'.st) (f : zar x.op = 2 → Same n r.st r'.st) (h : step Cf r x = some r1) :
  ∃ v,r1 = r.put x.dst v ∧ step Cf r' x = some (r'.put x.dst v):=by
 obtain ⟨d,op,g⟩:=x
 cases g with
 | none => exact zk4 i (fun y a => c y (by simp [zcP,a])) (fun y a => j y (by simp [zcP,a])) k f h
 | some p =>
   obtain ⟨y,b⟩:=p;simp only [step] at h ⊢;rw [c y (by simp [zcP])];unfold zlf at h ⊢;split at h
   ·split at h
    ·rename_i e
     rw [if_pos e];exact zk4 i (fun y a => c y (by simp [zcP,a])) (fun y a => j y (by simp [zcP,a])) k f h
    ·rename_i e
     rw [if_neg e];injection h with h;exact ⟨.tup [],h.symm,rfl⟩
   ·injection h with h
    exact ⟨.tup [],h.symm,rfl⟩
   ·cases h
def zxt (c : Nat) (σ σ1 : zb) : Prop:=σ1 = σ ∨ zzf c σ σ1
theorem zpN {x : Oper} (c : ∀ y ∈ zcP x,r'.get y = r.get y) (a : r'.st = r.st) (h : step Cf r x = some r1) :
  ∃ v σ1,r1 = (r.at σ1).put x.dst v ∧ step Cf r' x = some ((r'.at σ1).put x.dst v) ∧ zxt (zar x.op) r.st σ1:=by
 obtain ⟨d,op,g⟩:=x
 cases g with
 | none =>
   obtain ⟨v,σ1,k,j,e⟩:=ztV (fun y i => c y (by simp [zcP,i])) a h;exact ⟨v,σ1,k,j,.inr e⟩
 | some p =>
   obtain ⟨y,b⟩:=p;simp only [step] at h ⊢;rw [c y (by simp [zcP])];unfold zlf at h ⊢;split at h
   ·split at h
    ·rename_i f
     rw [if_pos f];obtain ⟨v,σ1,k,j,e⟩:=ztV (fun y i => c y (by simp [zcP,i])) a h;exact ⟨v,σ1,k,j,.inr e⟩
    ·rename_i f
     rw [if_neg f];injection h with h;exact ⟨.tup [],r.st,h.symm,by rw [← a]; rfl,.inl rfl⟩
   ·injection h with h
    exact ⟨.tup [],r.st,h.symm,by rw [← a]; rfl,.inl rfl⟩
   ·cases h
theorem zBQ (r : R) (d : D) (v : V) : ∃ y,(r.put d v).rs = y :: r.rs:=by cases d <;> exact ⟨_,rfl⟩
theorem zAT (r : R) (d : D) (v : V) : (r.put d v).env = match d with
 | .slot t => r.env.set t v
 | _ => r.env:=by cases d <;> rfl
end
end Go.A

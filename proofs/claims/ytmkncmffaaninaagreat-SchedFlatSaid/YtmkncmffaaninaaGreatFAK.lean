/- A part of the proof of SchedFlat. Conditions: none. -/
import Derived.Test.YtmkncmffaaninaaGreatFAJ
set_option linter.all false
open Option renaming bind_eq_some_iff → ya,map_eq_some_iff → yb,bind_some → ye,map_some → yk
open Array renaming getElem?_eq_getElem → yc,getD_eq_getD_getElem? → yd,getElem?_eq_some_iff → yf
open Bool renaming and_eq_true → yg,not_eq_true' → yq
open List renaming getElem?_eq_getElem → yh,range → yi,mem_append_left → yj,filter_cons → ym,mem_append_right → yn,mem_cons_of_mem → yo,getElem?_set_ne → yp,mem_cons → yt,not_mem_nil → yu,mem_filter → yv,range_succ → yw,mem_map → yx
open Nat renaming le_refl → yl,lt_or_ge → yr
namespace Go.A
def zwT (o : Go.Oper) : List Nat:=(o.after.toList.filter fun e => Region.binds .any e).map (·.on)
def zaw (gops : Array Go.Oper) (j : Nat) : List Nat:=match gops[j]? with
 | some o => zwT o
 | none => []
inductive Reach (gops : Array Go.Oper) : Nat → Nat → Prop where
 | edge {j i : Nat} : i ∈ zaw gops j → Reach gops j i
 | more {j k i : Nat} : k ∈ zaw gops j → Reach gops k i → Reach gops j i
def lo (gops : Array Go.Oper) (xs : List Oper) (i : Nat) : Option Tmp:=match gops[i]?,xs[i]? with
 | some o,some x => za5 o.dst x.dst
 | _,_ => none
def zhT (gops : Array Go.Oper) (xs : List Oper) (j : Nat) : List (Option Tmp):=(yi j).reverse.map (lo gops xs)
def zzr (gops : Array Go.Oper) (xs : List Oper) (j i : Nat) : Option Tmp:=if (zaw gops j).contains i then lo gops xs i else none
def zft (gops : Array Go.Oper) (xs : List Oper) (j : Nat) : List (Option Tmp):=(yi j).reverse.map (zzr gops xs j)
theorem zjC {α : Type} (f : Nat → α) {j d : Nat} (h : d < j) : ((yi j).reverse.map f)[d]? = some (f (j - 1 - d)):=by
 rw [List.getElem?_map,List.getElem?_reverse (by simpa using h),List.length_range,List.getElem?_range (by omega)];rfl
section
variable {P : Program} {κ : List Tmp} {nt : Nat} {gops : Array Go.Oper} {xs : List Oper}
theorem zlZ {Cf : zae} : ∀ (xs : List Oper) (r r1 : R),steps Cf xs r = some r1 → ∃ rr : Nat → R,rr 0 = r ∧ rr xs.length = r1 ∧ ∀ i x,xs[i]? = some x → step Cf (rr i) x = some (rr (i + 1))
 | [],r,r1,h => by
   simp only [steps,Option.some.injEq] at h;exact ⟨fun _ => r,rfl,h,fun i x h => by simp at h⟩
 | x :: xs,r,r1,h => by
   simp only [steps,ya] at h;obtain ⟨f,b,e⟩:=h;obtain ⟨rr,g,d,c⟩:=zlZ xs f r1 e
   refine ⟨fun i => match i with
    | 0 => r
    | i + 1 => rr i,rfl,d,fun i y a => ?_⟩
   cases i with
   | zero =>
     simp at a;subst a;simp only [g];exact b
   | succ i => exact c i y (by simpa using a)
structure Mid (gops : Array Go.Oper) (xs : List Oper) (κ : List Tmp) (nt p : Nat) (envD : (Nat → Bool) → List V) (v : Nat → V) (σD : (Nat → Bool) → zd) (g0 : G) (w0 : World) (σ0 : zd) (D : Nat → Bool) (g : G) (w : World) (a : Act) : Prop where
 ext : Ext g0 w0 σ0 g w (σD D)
 rel : Rel g w (σD D)
 size : a.tmps.size = nt
 df : a.defers = []
 slot : ∀ (i : Nat) (t : Tmp),κ[i]? = some t → zf g w (σD D) ((envD D).getD i vun) (a.tmps.getD t undef)
 done : ∀ i t,i < p → D i = true → lo gops xs i = some t → zf g w (σD D) (v i) (a.tmps.getD t undef)
def zba (D : Nat → Bool) (j : Nat) : Nat → Bool:=fun i => if i = j then true else D i
def Dof (listed : Array Bool) : Nat → Bool:=fun i => listed.getD i false
structure Plan (P : Program) (κ : List Tmp) (nt : Nat) (gops : Array Go.Oper) (xs : List Oper) (p : Nat) : Prop where
 len : xs.length = gops.size
 p_le : p ≤ gops.size
 back : ∀ j o,gops[j]? = some o → ∀ i ∈ zwT o,i < j
 pre : ∀ j o x,j < p → gops[j]? = some o → xs[j]? = some x → okD κ nt o.dst x.dst = true
 apart : ∀ i j t,i < p → j < p → lo gops xs i = some t → lo gops xs j = some t → i = j
 tail : ∀ j o x,p ≤ j → gops[j]? = some o → xs[j]? = some x → okD κ nt o.dst x.dst = true ∧ zfO κ (zhT gops xs j) gops o.guard x.guard = true ∧ zmm P κ (zhT gops xs j) o x.dst x.op = true ∧ ∀ i,i < j → Reach gops j i
variable {p b l : Nat} {envD : (Nat → Bool) → List V} {v : Nat → V} {σD : (Nat → Bool) → zd} {g0 : G} {w0 : World} {σ0 : zd} {rr : Nat → R}
def zhJ (gops : Array Go.Oper) (D : Nat → Bool) : Prop:=∀ j,D j = true → ∀ i ∈ zaw gops j,D i = true
theorem za2 {D : Nat → Bool} (c : zhJ gops D) {j i : Nat} (h : Reach gops j i) : (∀ i ∈ zaw gops j,D i = true) → D i = true:=by
 induction h with
 | edge h => exact fun a => a _ h
 | more h _ ih => exact fun a => ih fun i b => c _ (a _ h) i b
theorem zkN {a : Array Bool} (k : a.size = gops.size) {j : Nat} : j ∈ Region.ready .any gops a ↔ (∃ o,gops[j]? = some o) ∧ Dof a j = false ∧ ∀ i ∈ zaw gops j,Dof a i = true:=by
 rw [mem_ready];constructor
 ·rintro ⟨c,o,b,h⟩
  have f : j < gops.size:=(yf.1 b).1;refine ⟨⟨o,b⟩,?_,fun i d => ?_⟩
  ·unfold Dof
   rw [yd,yc (by omega)] at c ⊢;exact c
  ·unfold zaw at d
   rw [b] at d;unfold zwT at d;rw [yx] at d;obtain ⟨e,he,rfl⟩:=d;rw [yv] at he;exact h e (by simpa using he.1) he.2
 ·rintro ⟨⟨o,b⟩,c,h⟩
  have f : j < gops.size:=(yf.1 b).1;refine ⟨?_,o,b,fun e he g => h e.on ?_⟩
  ·unfold Dof at c
   rw [yd,yc (by omega)] at c ⊢;exact c
  ·unfold zaw
   rw [b];unfold zwT;rw [yx];exact ⟨e,by rw [yv]; exact ⟨by simpa using he,g⟩,rfl⟩
theorem ziV {a : Array Bool} (b : a.size = gops.size) {j : Nat} (c : j < gops.size) : Dof (a.setIfInBounds j true) = zba (Dof a) j:=by
 funext i
 show (a.setIfInBounds j true).getD i false = if i = j then true else a.getD i false
 rw [yd,yd,Array.getElem?_setIfInBounds]
 by_cases h : j = i
 ·subst h
  simp [b,c]
 ·rw [if_neg h,if_neg (fun e => h e.symm)]
theorem zqW {D : Nat → Bool} (c : zhJ gops D) {j : Nat} (d : ∀ i ∈ zaw gops j,D i = true) : zhJ gops (zba D j):=fun k a i b => by
 unfold zba at a ⊢;split
 ·rfl
 ·split at a
  ·rename_i e; subst e; exact d i b
  ·exact c k a i b
theorem zjZ {a : Array Bool} (g : a.size = gops.size) (k : ∀ j o,gops[j]? = some o → ∀ i ∈ zwT o,i < j) : ∀ (n : Nat) ,n < gops.size → Dof a n = false → Region.ready .any gops a ≠ []:=by
 intro n
 induction n using Nat.strongRecOn with
 | _ n ih =>
   intro d hd f
   by_cases h : ∀ i ∈ zaw gops n,Dof a i = true
   ·have : n ∈ Region.ready .any gops a:=(zkN g).2 ⟨⟨gops[n],yc d⟩,hd,h⟩
    rw [f] at this;simp at this
   ·simp only [Classical.not_forall] at h
    obtain ⟨i,b,e⟩:=h
    have c : i < n:=by
     unfold zaw at b;rw [yc d] at b;exact k n _ (yc d) i b
    exact ih i c (by omega) (by simpa using e) f
theorem zsN (pl : Plan P κ nt gops xs p) (hlen : ∀ D,(envD D).length = κ.length) (n : κ.Nodup) (m : ∀ t ∈ κ,t < nt) {D : Nat → Bool} {g : G} {w : World} {a : Act} (M : Mid gops xs κ nt p envD v σD g0 w0 σ0 D g w a) {j : Nat} (B : j ≤ p) {f : Nat → Option Tmp} (q : ∀ i t,i < j → f i = some t → D i = true ∧ lo gops xs i = some t) :
  Fr κ ((yi j).reverse.map f) nt g w ⟨(yi j).reverse.map v,envD D,σD D,b,l⟩ a:=by
 refine ⟨M.size,hlen D,fun i t y => M.slot i t y,fun d t hd _ => ?_,fun d t hd => ?_,n,m,M.df⟩
 ·have e : d < j:=by have:=zb hd; simpa using this
  rw [zjC f e] at hd;injection hd with hd;obtain ⟨u,c⟩:=q _ t (by omega) hd;simp only [List.getD_eq_getElem?_getD,zjC v e,Option.getD_some];exact M.done _ t (by omega) u c
 ·have e : d < j:=by have:=zb hd; simpa using this
  rw [zjC f e] at hd;injection hd with hd;obtain ⟨_,c⟩:=q _ t (by omega) hd;unfold lo at c;split at c
  ·rename_i o x s r
   have z:=pl.pre _ o x (by omega) s r;unfold za5 at c;split at c
   ·rename_i A h k
    injection c with c;subst c;have:=z;rw [h,k] at this;simp only [okD,yg,yq] at this;simpa using this.1
   ·cases c
  ·cases c
def left (D : Nat → Bool) (l : List Nat) : Nat:=(l.filter fun i => !D i).length
theorem zy7 (D : Nat → Bool) (j : Nat) : ∀ l : List Nat,left (zba D j) l ≤ left D l
 | [] => yl _
 | x :: l => by
   have a:=zy7 D j l;unfold left at a ⊢;simp only [ym]
   by_cases b : x = j
   ·subst b
    cases D x <;> simp [zba] at a ⊢ <;> omega
   ·have : zba D j x = D x:=by simp [zba,b]
    rw [this];cases D x <;> simp at a ⊢ <;> omega
theorem zuo (D : Nat → Bool) (j : Nat) (c : D j = false) : ∀ l : List Nat,j ∈ l → left (zba D j) l < left D l
 | [],h => by simp at h
 | x :: l,h => by
   have hle:=zy7 D j l
   by_cases a : x = j
   ·subst a
    unfold left at hle ⊢;simp only [ym,c];simp [zba] at hle ⊢;omega
   ·have b:=zuo D j c l (by simpa [Ne.symm a] using h)
    unfold left at b ⊢;simp only [ym];have : zba D j x = D x:=(by simp [zba,a]);rw [this];cases D x <;> simp at b ⊢ <;> omega
theorem ztb {D : Nat → Bool} {n : Nat} (h : left D (yi n) = 0) : ∀ i,i < n → D i = true:=fun i a => by
 have:=List.eq_nil_of_length_eq_zero h;rw [List.filter_eq_nil_iff] at this;simpa using this i (by simpa using a)
variable {Q : Exit → Act → World → Prop} {Cf : zae}
theorem ztF {m : Nat} {o : Go.Oper} {x : Oper} (b : gops[m]? = some o) (a : xs[m]? = some x) : zhT gops xs (m + 1) = za5 o.dst x.dst :: zhT gops xs m:=by
 unfold zhT;rw [yw,List.reverse_append];simp [lo,b,a]
theorem zrV (S : zhg P Cf) (pl : Plan P κ nt gops xs p) (r : ∀ i x,xs[i]? = some x → step Cf (rr i) x = some (rr (i + 1))) (e : ∀ g w a loc,Ext g0 w0 σ0 g w (rr gops.size).st → Rel g w (rr gops.size).st → Fr κ loc nt g w (rr gops.size) a → Q .normal a w) :
  ∀ (fuel m : Nat) (b : Array Bool) (g : G) (w : World) (a : Act),b.size = gops.size → p ≤ m → m ≤ gops.size → (∀ i,Dof b i = decide (i < m)) → gops.size ≤ m + fuel → Ext g0 w0 σ0 g w (rr m).st → Rel g w (rr m).st → Fr κ (zhT gops xs m) nt g w (rr m) a → wpAny P .any gops Q fuel b a w
 | fuel,m,b,g,w,a,hs,hpm,hm,hD,hf,H,R0,F => by
   have d : ∀ j,j ∈ Region.ready .any gops b → j = m ∧ j < gops.size:=fun j z => by
    obtain ⟨⟨o,n⟩,C,A⟩:=(zkN hs).1 z;have c : j < gops.size:=(yf.1 n).1;rw [hD] at C;have I : ¬ j < m:=(by simpa using C);refine ⟨?_,c⟩;have q : xs[j]? = some (xs[j]'(by rw [pl.len]; exact c)):=yh (by rw [pl.len]; exact c);have s:=(pl.tail j o _ (by omega) n q).2.2.2
    have f : zhJ gops (Dof b):=fun k B i v => by
     rw [hD] at B ⊢;have N : k < m:=(by simpa using B);unfold zaw at v;split at v
     ·rename_i J y
      have:=pl.back k J y i v;simp; omega
     ·simp at v
    rcases yr m j with h | h
    ·have:=za2 f (s m h) A
     rw [hD] at this;simp at this
    ·omega
   have fin : Region.ready .any gops b = [] → Q .normal a w:=fun t => by
    have : m = gops.size:=by
     rcases yr m gops.size with h | h
     ·exact absurd t (zjZ hs pl.back m h (by rw [hD]; simp))
     ·omega
    subst this;exact e g w a _ H R0 F
   cases fuel with
   | zero =>
     have t : Region.ready .any gops b = []:=by
      cases M : Region.ready .any gops b with
      | nil => rfl
      | cons j l =>
        have:=d j (by rw [M]; simp);omega
     exact ⟨t,fin t⟩
   | succ fuel =>
     refine ⟨fin,fun j z => ?_⟩;obtain ⟨rfl,c⟩:=d j z;have n : gops[j]? = some gops[j]:=yc c;have q : xs[j]? = some (xs[j]'(by rw [pl.len]; exact c)):=yh (by rw [pl.len]; exact c);obtain ⟨A,D,L,_⟩:=pl.tail j _ _ hpm n q
     have key:=zeB (Q:=Q) (gops:=gops) (next:=wpAny P .any gops Q fuel (b.setIfInBounds j true)) S R0 F A D L (r j _ q) (fun g' w' u H1 E _ K =>
      zrV S pl r e fuel (j + 1) _ g' w' _ (by simpa using hs) (by omega) (by omega) (fun i => by
       rw [ziV hs c];unfold zba;split
       ·simp; omega
       ·rw [hD]
        rename_i O;simp only [decide_eq_decide]
        omega) (by omega) (H.trans H1) E (by rw [ztF n q]; exact K)) (fun _ h => h)
     unfold wpOp;simp only [n];split
     ·rename_i hw
      rw [if_pos hw] at key;exact .inl key
     ·rename_i hw
      rw [if_neg hw] at key;exact key
termination_by fuel => fuel
def Local (P : Program) (κ : List Tmp) (nt : Nat) (gops : Array Go.Oper) (xs : List Oper) (v : Nat → V) (envD : (Nat → Bool) → List V) (σD : (Nat → Bool) → zd) (p b l : Nat) : Prop :=
 ∀ (j : Nat) (o : Go.Oper) (x : Oper) (D : Nat → Bool) (g : G) (w : World) (a : Act) (next : Act → World → Prop) (Q : Exit → Act → World → Prop),j < p → gops[j]? = some o → xs[j]? = some x → D j = false → (∀ i ∈ zaw gops j,D i = true) → zhJ gops D → (∀ i,p ≤ i → D i = false) → Rel g w (σD D) →
   Fr κ (zft gops xs j) nt g w ⟨(yi j).reverse.map v,envD D,σD D,b,l⟩ a →
   (∀ g' w' u,Ext g w (σD D) g' w' (σD (zba D j)) → Rel g' w' (σD (zba D j)) → Fr κ (za5 o.dst x.dst :: zft gops xs j) nt g' w' ⟨v j :: (yi j).reverse.map v,envD (zba D j),σD (zba D j),b,l⟩ (a.put o.dst u) → next (a.put o.dst u) w') →
   if Region.wanted o (yielded gops a.tmps) then o.wp P a w next Q else next (a.put o.dst undef) w
theorem zp0 (pl : Plan P κ nt gops xs p) {i : Nat} {t : Tmp} (d : i < p) (h : lo gops xs i = some t) : t ∉ κ:=by
 unfold lo at h;split at h
 ·rename_i o x f e
  have c:=pl.pre _ o x d f e;unfold za5 at h;split at h
  ·rename_i g a b
   injection h with h;subst h;rw [a,b] at c;simp only [okD,yg,yq] at c;simpa using c.1
  ·cases h
 ·cases h
theorem zu6 (S : zhg P Cf) (pl : Plan P κ nt gops xs p) (LS : Local P κ nt gops xs v envD σD p b l) (aD : ∀ i x,xs[i]? = some x → step Cf (rr i) x = some (rr (i + 1)))
  (aB : (rr p).rs = (yi p).reverse.map v) (hlen : ∀ D,(envD D).length = κ.length) (L : κ.Nodup) (K : ∀ t ∈ κ,t < nt)
  (B : ∀ D,(∀ i,D i = decide (i < p)) → σD D = (rr p).st ∧ envD D = (rr p).env)
  (I : ∀ g w a loc,Ext g0 w0 σ0 g w (rr gops.size).st → Rel g w (rr gops.size).st → Fr κ loc nt g w (rr gops.size) a → Q .normal a w) :
  ∀ (fuel : Nat) (c : Array Bool) (g : G) (w : World) (a : Act),c.size = gops.size → (∀ i,p ≤ i → Dof c i = false) → zhJ gops (Dof c) → left (Dof c) (yi gops.size) ≤ fuel → Mid gops xs κ nt p envD v σD g0 w0 σ0 (Dof c) g w a → wpAny P .any gops Q fuel c a w
 | fuel,c,g,w,a,hs,hp,hcl,hf,M => by
   by_cases k : ∀ i,i < p → Dof c i = true
   ·have aI : ∀ i,Dof c i = decide (i < p):=fun i => by
     by_cases r : i < p
     ·simp [r,k i r]
     ·simp [r,hp i (by omega)]
    obtain ⟨W,aJ⟩:=B _ aI;have H:=M.ext;have R0:=M.rel;rw [W] at H R0;have A:=zsN (b:=b) (l:=l) pl hlen L K M (yl p) (f:=lo gops xs) (fun i t r m => ⟨k i r,m⟩);rw [W,aJ,← aB] at A;have F : Fr κ (zhT gops xs p) nt g w (rr p) a:=⟨A.size,A.len,A.env,A.lc,A.lk,A.nd,A.bd,A.df⟩;refine zrV S pl aD I fuel p c g w a hs (yl _) pl.p_le aI ?_ H R0 F
    have y : ∀ n,n ≤ gops.size → n ≤ p + left (Dof c) (yi n):=fun n => by
     induction n with
     | zero => intro _; omega
     | succ n ih =>
       intro hn;have:=ih (by omega);unfold left at this ⊢;rw [yw,List.filter_append,List.length_append]
       by_cases aK : n < p
       ·omega
       ·have R:=hp n (by omega)
        simp [R];omega
    have:=y gops.size (yl _);omega
   ·have z : ∀ j,j ∈ Region.ready .any gops c → j < p ∧ j < gops.size ∧ Dof c j = false ∧ ∀ i ∈ zaw gops j,Dof c i = true:=fun j hj => by
     obtain ⟨⟨o,E⟩,R,U⟩:=(zkN hs).1 hj;have d : j < gops.size:=(yf.1 E).1;refine ⟨?_,d,R,U⟩;rcases yr j p with h | h
     ·exact h
     ·have O : xs[j]? = some (xs[j]'(by rw [pl.len]; exact d)):=yh (by rw [pl.len]; exact d)
      have aE:=(pl.tail j o _ h E O).2.2.2;exact absurd (fun i r => za2 hcl (aE i (by omega)) U) k
    obtain ⟨i0,Y⟩:=Classical.not_forall.1 k;obtain ⟨Y,aH⟩:=Classical.not_imp.1 Y;have aC : Region.ready .any gops c ≠ []:=zjZ hs pl.back i0 (by have:=pl.p_le; omega) (by simpa using aH)
    cases fuel with
    | zero =>
      have:=ztb (Nat.le_zero.1 hf) i0 (by have:=pl.p_le; omega);exact absurd this aH
    | succ fuel =>
      refine ⟨fun hr => absurd hr aC,fun j hj => ?_⟩;obtain ⟨s,d,R,U⟩:=z j hj;have E : gops[j]? = some gops[j]:=yc d;have O : xs[j]? = some (xs[j]'(by rw [pl.len]; exact d)):=yh (by rw [pl.len]; exact d);have hd:=pl.pre j _ _ s E O
      have F:=zsN (b:=b) (l:=l) pl hlen L K M (Nat.le_of_lt s) (f:=zzr gops xs j) (fun i t r m => by
       unfold zzr at m;split at m
       ·rename_i hc
        exact ⟨U i (by simpa using hc),m⟩
       ·cases m)
      have key:=LS j _ _ (Dof c) g w a (wpAny P .any gops Q fuel (c.setIfInBounds j true)) Q s E O R U hcl hp M.rel F (fun g' w' u H1 R1 F1 =>
       zu6 S pl LS aD aB hlen L K B I fuel _ g' w' _ (by simpa using hs) (fun i r => by
        rw [ziV hs d];unfold zba;split
        ·omega
        ·exact hp i r) (by rw [ziV hs d]; exact zqW hcl U) (by
        rw [ziV hs d];have:=zuo (Dof c) j R (yi gops.size) (by simpa using d)
        omega) (by
        rw [ziV hs d];refine ⟨M.ext.trans H1,R1,F1.size,F1.df,fun i t m => ?_,fun i t r X m => ?_⟩
        ·exact F1.env i t m
        ·by_cases J : i = j
         ·subst J
          have N : za5 gops[i].dst (xs[i]'(by rw [pl.len]; exact d)).dst = some t:=by
           unfold lo at m;rw [E,O] at m;exact m
          have:=F1.lc 0 t (by simp [N]) (by simp);simpa using this
         ·have aG : Dof c i = true:=by
           unfold zba at X
           rwa [if_neg J] at X
          have hold:=H1.zf _ _ (M.done i t r aG m)
          have V : (a.put gops[j].dst u).tmps.getD t undef = a.tmps.getD t undef:=by
           cases C : gops[j].dst with
           | none => rfl
           | some t' =>
             have aA : t' ≠ t:=fun e => by
              subst e;rw [C] at hd;unfold okD at hd;split at hd
              ·rename_i heq _; cases heq
              ·
               rename_i t2 heq Z;injection heq with heq;subst heq
               have aF : lo gops xs j = some t':=by
                unfold lo;rw [E,O];simp [za5,C,Z]
               exact J (pl.apart i j t' r s m aF)
              ·
               rename_i t2 q heq Z;injection heq with heq;subst heq;have hk : t' ∈ κ:=List.mem_of_getElem? (by simpa using hd);have N:=zp0 pl r m;exact N hk
              ·cases hd
             simp only [Act.put,zhn];rw [if_neg (by simp [aA])]
          rw [V]
          exact hold))
      unfold wpOp;simp only [E];split
      ·rename_i hw
       rw [if_pos hw] at key;exact .inl key
      ·rename_i hw
       rw [if_neg hw] at key;exact key
termination_by fuel => fuel
end
def zC7 : Option X → List X
 | some x => [x]
 | none => []
def opX : Op → List X
 | .mv x | .un _ x | .conv _ x | .len x | .fa _ x | .ld _ x | .box _ x | .ext x _ | .fld _ _ x | .nil x | .mks _ _ x | .mkc _ x | .mkr _ _ _ x => [x]
 | .pick c a b => [c,a,b]
 | .cpy _ x y | .bin _ x y | .eqa _ _ x y | .beq _ x y | .ia _ x y | .iaa _ _ x y | .st _ x y | .app _ x y | .lk _ _ x y | .mxn _ x y => [x,y]
 | .al _ _ | .nl _ _ | .mkm | .no _ => []
 | .bld _ parts _ => parts.map fun p => p.2.2
 | .bsl _ _ _ parts => parts.map fun p => p.2
 | .slc _ x lo hi mx => x :: (zC7 lo ++ zC7 hi ++ zC7 mx)
 | .mkf _ first caps => first ++ caps
 | .mu m k v => [m,k,v]
 | .call _ f args => f :: args
def zaS : Op → Nat
 | .mv _ | .pick .. | .bin .. | .eqa .. | .beq .. | .un .. | .conv .. | .len _ | .fa .. | .iaa .. | .ext .. | .fld .. | .nil _ | .mkf .. | .mxn .. => 0
 | .bsl .fz _ _ _ => 0
 | .nl .fz _ => 0
 | .bld _ _ [] => 0
 | .ia .. | .slc .. => 1
 | .ld .. | .lk .. => 2
 | .call .cl _ _ => 2
 | .st .. => 3
 | .al .. | .box .. | .mks .. | .mkc .. | .mkr .. | .mkm | .nl .. | .bsl .. | .bld .. => 4
 | _ => 5
section
variable {Cf : zae} {r r' r1 : R} {d : D}
theorem zq2 {x : Option V} {r1 : R} (h : x.map (r.put d) = some r1) : ∃ v,x = some v ∧ r1 = r.put d v:=by
 rw [yb] at h;obtain ⟨v,a,b⟩:=h;exact ⟨v,a,b.symm⟩
theorem zpv {a : Nat} {x : Option X} (h : ∀ y ∈ zC7 x,r'.get y = r.get y) : bound r' a x = bound r a x:=by
 cases x with
 | none => rfl
 | some y => simp [bound,h y (by simp [zC7])]
theorem zlN : ∀ {a : List (Nat × Nat × X)} {cs : List C},(∀ y ∈ a.map (fun p => p.2.2),r'.get y = r.get y) → zm9 r' a cs = zm9 r a cs
 | [],_,_ => rfl
 | (off,sz,x) :: a,cs,h => by
   simp only [zm9,h x (by simp)]
   congr 1
   exact congrArg _ (funext fun c => zlN fun y b => h y (by simp at b ⊢; exact .inr b))
theorem zlv {sz : Nat} : ∀ {a : List (Nat × X)} {cs : List (List C)},(∀ y ∈ a.map (fun p => p.2),r'.get y = r.get y) → zn9 r' sz a cs = zn9 r sz a cs
 | [],_,_ => rfl
 | (i,x) :: a,cs,h => by
   simp only [zn9,h x (by simp)]
   congr 1
   exact zlv fun y b => h y (by simp at b ⊢; exact .inr b)
theorem ziq : ∀ {ys : List X},(∀ y ∈ ys,r'.get y = r.get y) → r'.gets ys = r.gets ys
 | [],_ => rfl
 | y :: ys,h => by
   have b:=ziq (ys:=ys) fun z a => h z (yo _ a);simp only [R.gets,h y (by simp),b]
structure Same (n : Nat) (σ σ' : zd) : Prop where
 get : ∀ id o,id < n → σ[id]? = some o → σ'[id]? = some o
structure SameRow (n : Nat) (σ σ' : zd) : Prop where
 row : ∀ id ver sz o,id < n → σ[id]? = some o → o.isRow ver sz = true → ∃ o',σ'[id]? = some o' ∧ o'.isRow ver sz = true
theorem Same.rows {n : Nat} {σ σ' : zd} (h : Same n σ σ') : SameRow n σ σ':=⟨fun id b sz o a d c => ⟨o,h.get id o a d,c⟩⟩
theorem zyK {n : Nat} {σ σ' : zd} (h : Same n σ σ') {v v' : V} (g : v.lt n = true) (a : zDD σ v = some v') : zDD σ' v = some v':=by
 unfold zDD at a ⊢;split at a
 ·rename_i id d lo m
  have c : id < n:=by simpa [V.lt,C.lt] using g
  rw [yb] at a ⊢;obtain ⟨xs,b,f⟩:=a;rw [ya] at b;obtain ⟨o,b,e⟩:=b;exact ⟨xs,by rw [ya]; exact ⟨o,h.get id o c b,e⟩,f⟩
 all_goals exact a
theorem zqP {n : Nat} {σ σ' : zd} (h : Same n σ σ') : ∀ {vs a : List V},V.lts n vs = true → zqj σ vs = some a → zqj σ' vs = some a
 | [],_,_,hv => hv
 | v :: vs,a,hl,hv => by
   simp only [V.lts,yg] at hl;simp only [zqj] at hv ⊢;obtain ⟨y,z,b,c,rfl⟩:=zfJ hv;rw [zyK h hl.1 b,zqP h hl.2 c];rfl
theorem znq {n : Nat} : ∀ {a b : List V},V.lts n (a ++ b) = (V.lts n a && V.lts n b)
 | [],b => by simp [V.lts]
 | v :: a,b => by simp [V.lts,znq (a:=a),Bool.and_assoc]
theorem zuV {n : Nat} : ∀ {cs : List C},V.lts n (cs.map V.one) = C.lts n cs
 | [] => rfl
 | c :: cs => by simp [V.lts,V.lt,C.lts,zuV (cs:=cs)]
theorem zwg {n : Nat} : ∀ {ys : List X},(∀ y ∈ ys,(r.get y).lt n = true) → V.lts n (r.gets ys) = true
 | [],_ => rfl
 | y :: ys,h => by
   have a:=zwg (ys:=ys) fun z b => h z (yo _ b);simp [R.gets,V.lts,h y (by simp),a]
theorem znh {op : Op} {n : Nat} (A : zaS op ≤ 2) (l : ∀ x ∈ opX op,r'.get x = r.get x) (E : ∀ x ∈ opX op,(r.get x).lt n = true) (Q : zaS op = 1 → SameRow n r.st r'.st) (M : zaS op = 2 → Same n r.st r'.st) (h : za8 Cf r d op = some r1) :
  ∃ v,r1 = r.put d v ∧ za8 Cf r' d op = some (r'.put d v):=by
 have one : ∀ {x : Option V},x.map (r.put d) = some r1 → ∀ {y : Option V},(∀ v,x = some v → y = some v) → ∃ v,r1 = r.put d v ∧ y.map (r'.put d) = some (r'.put d v):=fun {x} hx {y} D => by
  obtain ⟨v,e1,e2⟩:=zq2 hx;exact ⟨v,e2,by rw [D v e1]; rfl⟩
 cases op <;> simp only [za8] at h ⊢ <;> simp only [opX,yt,yu,or_false,forall_eq_or_imp,forall_eq] at l E
 case mv x => injection h with h; exact ⟨_,h.symm,by rw [l]⟩
 case pick c x y => rw [l.1,l.2.1,l.2.2]; exact one h fun _ e => e
 case bin o x y => rw [l.1,l.2]; exact one h fun _ e => e
 case beq neg x y => rw [l.1,l.2]; exact one h fun _ e => e
 case eqa n neg x y => rw [l.1,l.2]; exact one h fun _ e => e
 case un o x => rw [l]; exact one h fun _ e => e
 case conv k x => rw [l]; exact one h fun _ e => e
 case len x => rw [l]; exact one h fun _ e => e
 case fa off x => rw [l]; exact one h fun _ e => e
 case iaa n' sz x i => rw [l.1,l.2]; exact one h fun _ e => e
 case ext x i => rw [l]; exact one h fun _ e => e
 case fld off sz x => rw [l]; exact one h fun _ e => e
 case nil x => rw [l]; exact one h fun _ e => e
 case mxn b x y => rw [l.1,l.2]; exact one h fun _ e => e
 case mkf f first G =>
  injection h with h;rw [ziq (r:=r) (r':=r') fun y D => l y (yj _ D),ziq (r:=r) (r':=r') fun y D => l y (yn _ D)];exact ⟨_,h.symm,rfl⟩
 case ia sz x i =>
  rw [l.1,l.2];refine one h fun v e => ?_;have z:=Q rfl;unfold aia at e ⊢;split at e
  ·rename_i id u lo m U q heq _
   split at e
   ·rename_i H
    rw [if_pos H];rw [ya] at e ⊢;obtain ⟨o,e1,e2⟩:=e;unfold zue at e2;split at e2
    ·rename_i S
     have t : id < n:=by
      have:=E.1;rw [heq] at this;simpa [V.lt,C.lt] using this
     obtain ⟨P,s,p⟩:=z.row id u sz o t e1 S;exact ⟨P,s,by unfold zue; rw [if_pos p]; exact e2⟩
    ·cases e2
   ·cases e
  all_goals exact e
 case slc sz x lo hi mx =>
  have z:=Q rfl;have e1:=l.1
  have hm : zBG r' hi mx = zBG r hi mx:=by
   cases mx with
   | none => rfl
   | some m => cases hi with
     | none => rfl
     | some hh =>
       have s:=l.2 m (by simp [zC7]);have p:=l.2 hh (by simp [zC7]);simp only [zBG,s,p]
  by_cases A : zBG r hi mx = true
  case neg => rw [if_neg A] at h; cases h
  rw [if_pos A] at h;rw [if_pos (hm.trans A)];refine one h fun v e => ?_;have b1 : ∀ d,bound r' d lo = bound r d lo:=fun d => zpv fun y D => l.2 y (yj _ (yj _ D));have b2 : ∀ d,bound r' d hi = bound r d hi:=fun d => zpv fun y D => l.2 y (yj _ (yn _ D));rw [e1];unfold zFg at e ⊢;split at e
  ·rw [b1,b2]; exact e
  ·rw [b1,b2]; exact e
  ·rename_i id u X m heq
   rw [b1,b2];split at e
   ·cases e
   ·rename_i O
    rw [if_neg O];obtain ⟨a,b,s,p,w⟩:=zoD e;rw [s,p]
    show zyk r'.st sz id u X m a b = some v
    unfold zyk at w ⊢;split at w
    ·rename_i H
     have t : id < n:=by
      have:=E.1;rw [heq] at this;simpa [V.lt,C.lt] using this
     have I : (r'.st[id]?).any (Ob.isRow u sz) = true:=by
      have:=H.2.2
      cases N : r.st[id]? with
      | none => simp [N] at this
      | some o =>
        simp [N] at this;obtain ⟨P,B,W⟩:=z.row id u sz o t N this;simp [B,W]
     rw [if_pos ⟨H.1,H.2.1,I⟩];exact w
    ·cases w
  ·cases e
 case ld sz x =>
  have J:=M rfl;rw [l];refine one h fun v e => ?_
  have key : ∀ {id u i : Nat} {el : List C},id < n → r.st.elem id u i = some el → r'.st.elem id u i = some el:=fun {id u i el} t he => by
   unfold zd.elem at he ⊢;rw [ya] at he ⊢;obtain ⟨o,s,p⟩:=he;exact ⟨o,J.get id o t s,p⟩
  unfold ald at e ⊢;split at e
  ·rename_i id u i off heq
   have t : id < n:=by
    have:=E;rw [heq] at this;simpa [V.lt,C.lt] using this
   rw [yb] at e ⊢;obtain ⟨c,s,p⟩:=e;unfold zd.cell at s ⊢;rw [ya] at s;obtain ⟨el,w,B⟩:=s;exact ⟨c,by rw [ya]; exact ⟨el,key t w,B⟩,p⟩
  ·exact e
  ·rename_i m id u i off heq
   have t : id < n:=by
    have:=E;rw [heq] at this;simpa [V.lt,C.lt] using this
   rw [yb] at e ⊢;obtain ⟨c,s,p⟩:=e;rw [ya] at s;obtain ⟨el,w,B⟩:=s;exact ⟨c,by rw [ya]; exact ⟨el,key t w,B⟩,p⟩
  ·exact e
  ·cases e
 case lk zero ok m k =>
  have J:=M rfl;rw [l.1,l.2];refine one h fun v e => ?_;unfold alk at e ⊢;split at e
  ·rename_i id U heq _
   have t : id < n:=by
    have:=E.1;rw [heq] at this;simpa [V.lt,C.lt] using this
   rw [yb] at e ⊢;obtain ⟨es,s,p⟩:=e;rw [ya] at s;obtain ⟨o,w,B⟩:=s;exact ⟨es,by rw [ya]; exact ⟨o,J.get id o t w,B⟩,p⟩
  ·exact e
  ·cases e
 case call m f args =>
  cases m
  case cl =>
   have J:=M rfl;have e1:=l.1;have e2:=ziq (r:=r) (r':=r') (ys:=args) l.2;rw [e1,e2];unfold zoe at h ⊢;split at h
   ·rename_i g first G heq
    simp only at h ⊢;rw [ya] at h;obtain ⟨x,s,p⟩:=h;rw [ya] at s;obtain ⟨aS,w,B⟩:=s
    have L : V.lts n (first.map V.one ++ (r.gets args ++ G.map V.one)) = true:=by
     have K:=E.1;rw [heq] at K;simp only [V.lt,C.lt,yg] at K;rw [znq,znq,zuV,zuV,zwg E.2,K.1,K.2];rfl
    rw [zqP J L w];simp only [ye,B];unfold zvD at p ⊢;split at p
    ·rename_i H
     injection p with p;exact ⟨_,p.symm,by rw [if_pos H]⟩
    ·cases p
   ·cases h
  all_goals (simp only [zaS] at A; omega)
 case bsl b sz zero parts =>
  cases b <;> simp only [zaS] at A
  case fz =>
   rw [zlv (r:=r) (r':=r') l];rw [ya] at h;obtain ⟨es,s,p⟩:=h;simp only [zvN,yb] at p;obtain ⟨xs,p,w⟩:=p;exact ⟨vsl xs,w.symm,by rw [s]; simp only [ye,zvN,p,yk,zDV]⟩
  all_goals omega
 case nl b sz =>
  cases b <;> simp only [zaS] at A
  case fz =>
   simp only [anl,Option.some.injEq] at h ⊢;exact ⟨_,h.symm,rfl⟩
  all_goals omega
 case bld zero parts fresh =>
  cases fresh with
  | nil =>
    rw [zlN (r:=r) (r':=r') l];rw [yb] at h;obtain ⟨cs,s,p⟩:=h;simp only [zf8] at s ⊢;refine ⟨.agg cs,?_,by rw [s]; simp [zEj,tokens,R.allocs]⟩;rw [← p];simp [zEj,tokens,R.allocs]
  | cons j js => simp only [zaS] at A; omega
 all_goals (simp only [zaS] at A; omega)
end
mutual
theorem exC : ∀ c : C,∃ n,∀ m,n ≤ m → c.lt m = true
 | .f _ => ⟨0,fun _ _ => by simp [C.lt]⟩
 | .ap t _ _ => ⟨t + 1,fun _ h => by simp [C.lt]; omega⟩
 | .ptr id _ _ _ => ⟨id + 1,fun _ h => by simp [C.lt]; omega⟩
 | .fp _ _ => ⟨0,fun _ _ => by simp [C.lt]⟩
 | .own id _ _ _ => ⟨id + 1,fun _ h => by simp [C.lt]; omega⟩
 | .map id => ⟨id + 1,fun _ h => by simp [C.lt]; omega⟩
 | .fn _ a b => by
   obtain ⟨n,d⟩:=zFn a;obtain ⟨m,e⟩:=zFn b;exact ⟨max n m,fun k g => by simp only [C.lt,yg]; exact ⟨d k (by omega),e k (by omega)⟩⟩
 | .un => ⟨0,fun _ _ => by simp [C.lt]⟩
theorem zFn : ∀ cs : List C,∃ n,∀ m,n ≤ m → C.lts m cs = true
 | [] => ⟨0,fun _ _ => rfl⟩
 | c :: cs => by
   obtain ⟨n,a⟩:=exC c;obtain ⟨m,b⟩:=zFn cs;exact ⟨max n m,fun k d => by simp only [C.lts,yg]; exact ⟨a k (by omega),b k (by omega)⟩⟩
end
mutual
theorem exV : ∀ c : V,∃ n,∀ m,n ≤ m → c.lt m = true
 | .one c => by
   obtain ⟨n,h⟩:=exC c;exact ⟨n,fun m hm => by simp only [V.lt]; exact h m hm⟩
 | .agg cs => by
   obtain ⟨n,h⟩:=zFn cs;exact ⟨n,fun m hm => by simp only [V.lt]; exact h m hm⟩
 | .tup vs => by
   obtain ⟨n,h⟩:=zGl vs;exact ⟨n,fun m hm => by simp only [V.lt]; exact h m hm⟩
theorem zGl : ∀ cs : List V,∃ n,∀ m,n ≤ m → V.lts m cs = true
 | [] => ⟨0,fun _ _ => rfl⟩
 | c :: cs => by
   obtain ⟨n,a⟩:=exV c;obtain ⟨m,b⟩:=zGl cs;exact ⟨max n m,fun k d => by simp only [V.lts,yg]; exact ⟨a k (by omega),b k (by omega)⟩⟩
end
theorem exX (f : X → V) : ∀ xs : List X,∃ n,∀ m,n ≤ m → ∀ x ∈ xs,(f x).lt m = true
 | [] => ⟨0,fun _ _ x h => by simp at h⟩
 | x :: xs => by
   obtain ⟨n,b⟩:=exV (f x);obtain ⟨m,c⟩:=exX f xs;refine ⟨max n m,fun k d y a => ?_⟩;rcases yt.1 a with rfl | a
   ·exact b k (by omega)
   ·exact c k (by omega) y a
section
variable {Cf : zae} {r r' r1 : R} {d : D}
def R.at (r : R) (σ : zd) : R:={ r with st:=σ }
def zBp (c : Nat) (σ σ1 : zd) : Prop:=(c ≤ 2 → σ1 = σ) ∧ (c = 3 → σ1.length = σ.length ∧ ∀ n,SameRow n σ σ1 ∧ SameRow n σ1 σ) ∧ (c = 4 → ∃ os,σ1 = σ ++ os)
theorem zvv {op : Op} (t : ∀ x ∈ opX op,r'.get x = r.get x) (a : r'.st = r.st) (h : za8 Cf r d op = some r1) :
  ∃ v σ1,r1 = (r.at σ1).put d v ∧ za8 Cf r' d op = some ((r'.at σ1).put d v) ∧ zBp (zaS op) r.st σ1:=by
 by_cases C : zaS op ≤ 2
 ·
  obtain ⟨n,D⟩:=exX r.get (opX op);obtain ⟨v,l,c⟩:=znh (n:=n) C t (D n (yl _)) (fun _ => by rw [a]; exact ⟨fun id J sz o _ u y => ⟨o,u,y⟩⟩) (fun _ => by rw [a]; exact ⟨fun id o _ u => u⟩) h;refine ⟨v,r.st,l,?_,fun _ => rfl,fun h => by omega,fun h => by omega⟩;rw [c,← a];rfl
 ·have e4 : ∀ {os : List Ob},zaS op = 4 → zBp (zaS op) r.st (r.st ++ os):=fun {os} p => ⟨fun h => by omega,fun h => by omega,fun _ => ⟨os,rfl⟩⟩
  have e5 : ∀ {σ1 : zd},zaS op = 5 → zBp (zaS op) r.st σ1:=fun {σ1} p => ⟨fun h => by omega,fun h => by omega,fun h => by omega⟩
  have anl' : ∀ {b : B} {sz : Nat},b ≠ .fz → anl r d sz b = some r1 → ∃ v os,r1 = (r.at (r.st ++ os)).put d v ∧ anl r' d sz b = some ((r'.at (r.st ++ os)).put d v):=fun {b sz} hb D => by
   cases b with
   | fz => exact absurd rfl hb
   | tk =>
     simp only [anl,Option.some.injEq] at D ⊢;exact ⟨_,_,D.symm,by simp only [R.alloc,R.at,a]⟩
   | rw =>
     simp only [anl,Option.some.injEq] at D ⊢;exact ⟨_,_,D.symm,by simp only [R.alloc,R.at,a]⟩
  cases op <;> simp only [za8] at h ⊢ <;> simp only [opX,yt,yu,or_false,forall_eq_or_imp,forall_eq] at t
  case st sz x v =>
   rw [t.1,t.2];rw [yb] at h;obtain ⟨O,h,rfl⟩:=h;unfold ast at h ⊢;split at h
   ·rename_i id J i off heq
    split at h
    ·rename_i L
     rw [if_pos L];unfold R.write at h ⊢;split at h
     ·rename_i H
      rw [if_pos H,a];rw [yb] at h;obtain ⟨M,l,rfl⟩:=h;rw [l];refine ⟨vun,r.st.set id M,rfl,by simp only [yk,R.setOb,R.at,a],fun h => by simp [zaS] at h,fun _ => ⟨by simp,fun n => ⟨⟨fun A w E o _ u y => ?_⟩,⟨fun A w E o _ u y => ?_⟩⟩⟩,fun h => by simp [zaS] at h⟩
      ·rw [ya] at l
       obtain ⟨K,c,q⟩:=l
       by_cases e : A = id
       ·subst e
        rw [c] at u;injection u with u;subst u;unfold Ob.write at q;split at q
        ·split at q
         ·rw [yb] at q
          obtain ⟨N,_,rfl⟩:=q;exact ⟨_,zB c,by simpa [Ob.isRow,upd] using y⟩
         ·cases q
        ·cases q
       ·exact ⟨o,by rw [yp (Ne.symm e)]; exact u,y⟩
      ·rw [ya] at l
       obtain ⟨K,c,q⟩:=l
       by_cases e : A = id
       ·subst e
        rw [zB c] at u;injection u with u;subst u;refine ⟨K,c,?_⟩;unfold Ob.write at q;split at q
        ·split at q
         ·rw [yb] at q
          obtain ⟨N,_,rfl⟩:=q;simpa [Ob.isRow,upd] using y
         ·cases q
        ·cases q
       ·exact ⟨o,by rw [yp (Ne.symm e)] at u; exact u,y⟩
     ·cases h
    ·cases h
   ·cases h
  case al zero fresh =>
   injection h with h;exact ⟨_,_,h.symm,by simp only [aal,R.allocs,R.at,a],e4 rfl⟩
  case box sz x =>
   rw [t];split at h
   ·rename_i p
    injection h with h;exact ⟨_,_,h.symm,by rw [if_pos p]; simp only [R.alloc,R.at,a],e4 rfl⟩
   ·cases h
  case mks zero fresh n =>
   rw [t];unfold zEg at h ⊢;split at h
   ·split at h
    ·rename_i p
     injection h with h;exact ⟨_,_,h.symm,by rw [if_pos p]; simp only [R.alloc,R.at,a],e4 rfl⟩
    ·cases h
   ·split at h
    ·rename_i p
     injection h with h;exact ⟨_,_,h.symm,by rw [if_pos p]; simp only [R.allocs,R.at,a],e4 rfl⟩
    ·cases h
   ·cases h
  case mkr zero j sz n =>
   rw [t];unfold zFc at h ⊢;split at h
   ·split at h
    ·rename_i p
     injection h with h;exact ⟨_,_,h.symm,by rw [if_pos p]; simp only [R.allocs,R.at,a],e4 rfl⟩
    ·cases h
   ·cases h
  case mkc sz n =>
   rw [t];unfold zFh at h ⊢;split at h
   ·split at h
    ·rename_i p
     injection h with h;exact ⟨_,_,h.symm,by rw [if_pos p]; simp only [R.alloc,R.at,a],e4 rfl⟩
    ·cases h
   ·cases h
  case mkm =>
   injection h with h;exact ⟨_,_,h.symm,by simp only [R.alloc,R.at,a],e4 rfl⟩
  case nl b sz =>
   cases b
   case fz => simp [zaS] at C
   case tk => obtain ⟨v,os,l,c⟩:=anl' (by simp) h; exact ⟨v,_,l,c,e4 rfl⟩
   case rw => obtain ⟨v,os,l,c⟩:=anl' (by simp) h; exact ⟨v,_,l,c,e4 rfl⟩
  case bsl b sz zero parts =>
   rw [zlv (r:=r) (r':=r') t];rw [ya] at h;obtain ⟨es,l,c⟩:=h;rw [l];cases b
   case fz => simp [zaS] at C
   case tk =>
    simp only [zvN,yb] at c;obtain ⟨xs,c,rfl⟩:=c;exact ⟨_,_,rfl,by simp only [ye,zvN,c,yk,zx2,R.alloc,R.at,a],e4 rfl⟩
   case rw =>
    simp only [zvN,Option.some.injEq] at c;subst c;exact ⟨_,_,rfl,by simp only [ye,zvN,R.alloc,R.at,a],e4 rfl⟩
  case bld zero parts fresh =>
   rw [zlN (r:=r) (r':=r') t,a];rw [yb] at h;obtain ⟨cs,l,rfl⟩:=h;rw [l];refine ⟨.agg cs,r.st ++ tokens fresh,rfl,by simp only [yk,zEj,R.allocs,R.at,a],e4 ?_⟩
   cases fresh with
   | nil => simp [zaS] at C
   | cons j js => rfl
  case cpy sz s x =>
   rw [t.1,t.2,a];rw [ya] at h;obtain ⟨ys,l,c⟩:=h;rw [l];simp only [ye];split at c
   ·rename_i z
    rw [if_pos z];unfold zFd at c ⊢;split at c
    ·split at c
     ·cases c
     ·rename_i H
      simp only [if_neg H];rw [ya] at c;obtain ⟨o,q,g⟩:=c;rw [a,q];simp only [ye]
      cases o with
      | tok _ _ => simp [zjz] at g
      | mp _ => simp [zjz] at g
      | cells w E es =>
        simp only [zjz] at g ⊢;split at g
        ·rename_i p
         injection g with g;exact ⟨_,_,g.symm,by rw [if_pos p]; simp only [R.setOb,R.at,a],e5 rfl⟩
        ·cases g
    ·cases c
   ·cases c
  case app sz s x =>
   rw [t.1,t.2,a];rw [ya] at h;obtain ⟨ys,l,c⟩:=h;rw [l];simp only [ye];split at c
   ·rename_i z
    rw [if_pos z];unfold zDN at c ⊢;split at c
    ·rw [ya] at c
     obtain ⟨o,q,g⟩:=c;rw [a,q];simp only [ye];unfold znO at g ⊢;split at g
     ·rename_i p
      injection g with g;exact ⟨_,_,g.symm,by rw [if_pos p]; simp only [R.setOb,R.at,a],e5 rfl⟩
     ·cases g
    ·rw [ya] at c
     obtain ⟨o,q,g⟩:=c;rw [a,q];simp only [ye];unfold ztA at g ⊢;split at g
     ·rename_i p
      injection g with g;exact ⟨_,_,g.symm,by rw [if_pos p]; simp only [R.setOb,R.at,a],e5 rfl⟩
     ·rename_i I
      split at g
      ·rename_i p
       injection g with g;exact ⟨_,_,g.symm,by rw [if_neg I,if_pos p]; simp only [R.at,← a],e5 rfl⟩
      ·cases g
    ·split at c
     ·rename_i p
      injection c with c;exact ⟨_,_,c.symm,by rw [if_pos p]; simp only [R.alloc,R.at,a],e5 rfl⟩
     ·cases c
    ·cases c
   ·cases c
  case mu m k v =>
   rw [t.1,t.2.1,t.2.2];rw [yb] at h;obtain ⟨O,h,rfl⟩:=h;unfold amu at h ⊢;split at h
   ·rw [yb] at h
    obtain ⟨es,l,rfl⟩:=h;rw [a,l];exact ⟨vun,_,rfl,by simp only [yk,zE4,R.setOb,R.at,a],e5 rfl⟩
   ·cases h
  case call m f args =>
   have e1:=t.1;have e2:=ziq (r:=r) (r':=r') (ys:=args) t.2;rw [e1,e2];unfold zoe at h ⊢;split at h
   ·cases m
    case cl => simp [zaS] at C
    case ck =>
     simp only at h ⊢;split at h
     ·cases h
     ·rename_i G
      rw [if_neg G,a];rw [yb] at h;obtain ⟨x,l,rfl⟩:=h;rw [l];exact ⟨_,_,rfl,by simp only [yk,zv1,R.at,a],e5 rfl⟩
    case op =>
     simp only at h ⊢;rw [a];rw [yb] at h;obtain ⟨x,l,rfl⟩:=h;rw [l];exact ⟨_,_,rfl,by simp only [yk,zvR,R.at],e5 rfl⟩
   ·cases h
  all_goals first
   | (simp [zaS] at C; done)
   | (cases h; done)
def zeQ (x : Oper) : List X:=opX x.op ++ (match x.guard with
 | some (y,_) => [y]
 | none => [])
theorem zfK {x : Oper} {n : Nat} (i : zaS x.op ≤ 2) (c : ∀ y ∈ zeQ x,r'.get y = r.get y) (k : ∀ y ∈ zeQ x,(r.get y).lt n = true) (f : zaS x.op = 1 → SameRow n r.st r'.st) (j : zaS x.op = 2 → Same n r.st r'.st) (h : step Cf r x = some r1) :
  ∃ v,r1 = r.put x.dst v ∧ step Cf r' x = some (r'.put x.dst v):=by
 obtain ⟨d,op,g⟩:=x
 cases g with
 | none => exact znh i (fun y a => c y (by simp [zeQ,a])) (fun y a => k y (by simp [zeQ,a])) f j h
 | some p =>
   obtain ⟨y,b⟩:=p;simp only [step] at h ⊢;rw [c y (by simp [zeQ])];unfold znC at h ⊢;split at h
   ·split at h
    ·rename_i e
     rw [if_pos e];exact znh i (fun y a => c y (by simp [zeQ,a])) (fun y a => k y (by simp [zeQ,a])) f j h
    ·rename_i e
     rw [if_neg e];injection h with h;exact ⟨.tup [],h.symm,rfl⟩
   ·injection h with h
    exact ⟨.tup [],h.symm,rfl⟩
   ·cases h
def zAF (c : Nat) (σ σ1 : zd) : Prop:=σ1 = σ ∨ zBp c σ σ1
theorem zrO {x : Oper} (e : ∀ y ∈ zeQ x,r'.get y = r.get y) (a : r'.st = r.st) (h : step Cf r x = some r1) :
  ∃ v σ1,r1 = (r.at σ1).put x.dst v ∧ step Cf r' x = some ((r'.at σ1).put x.dst v) ∧ zAF (zaS x.op) r.st σ1:=by
 obtain ⟨d,op,g⟩:=x
 cases g with
 | none =>
   obtain ⟨v,σ1,j,i,c⟩:=zvv (fun y k => e y (by simp [zeQ,k])) a h;exact ⟨v,σ1,j,i,.inr c⟩
 | some p =>
   obtain ⟨y,b⟩:=p;simp only [step] at h ⊢;rw [e y (by simp [zeQ])];unfold znC at h ⊢;split at h
   ·split at h
    ·rename_i f
     rw [if_pos f];obtain ⟨v,σ1,j,i,c⟩:=zvv (fun y k => e y (by simp [zeQ,k])) a h;exact ⟨v,σ1,j,i,.inr c⟩
    ·rename_i f
     rw [if_neg f];injection h with h;exact ⟨.tup [],r.st,h.symm,by rw [← a]; rfl,.inl rfl⟩
   ·injection h with h
    exact ⟨.tup [],r.st,h.symm,by rw [← a]; rfl,.inl rfl⟩
   ·cases h
theorem zEP (r : R) (d : D) (v : V) : ∃ y,(r.put d v).rs = y :: r.rs:=by cases d <;> exact ⟨_,rfl⟩
theorem zDg (r : R) (d : D) (v : V) : (r.put d v).env = match d with
 | .slot t => r.env.set t v
 | _ => r.env:=by cases d <;> rfl
end
end Go.A

/- A part of the proof of SchedTells. Conditions: none. -/
import Derived.Test.YtmkncmffaaninaaGreatTAJ
set_option linter.all false
open Option renaming bind_eq_some_iff → ya,map_eq_some_iff → yb,bind_some → ye,map_some → yi
open Array renaming getElem?_eq_getElem → yc,getD_eq_getD_getElem? → yd,getElem?_eq_some_iff → yf
open Bool renaming and_eq_true → yg,not_eq_true' → yq
open List renaming getElem?_eq_getElem → yh,range → yj,mem_append_left → yk,filter_cons → ym,mem_append_right → yn,mem_cons_of_mem → yo,getElem?_set_ne → yp,mem_cons → yt,not_mem_nil → yu,mem_filter → yv,range_succ → yw,mem_map → yx
open Nat renaming le_refl → yl,lt_or_ge → yr
namespace Go.A
def zyH (o : Go.Oper) : List Nat:=(o.after.toList.filter fun e => Region.binds .any e).map (·.on)
def zaF (gops : Array Go.Oper) (j : Nat) : List Nat:=match gops[j]? with
 | some o => zyH o
 | none => []
inductive Reach (gops : Array Go.Oper) : Nat → Nat → Prop where
 | edge {j i : Nat} : i ∈ zaF gops j → Reach gops j i
 | more {j k i : Nat} : k ∈ zaF gops j → Reach gops k i → Reach gops j i
def lo (gops : Array Go.Oper) (xs : List Oper) (i : Nat) : Option Tmp:=match gops[i]?,xs[i]? with
 | some o,some x => zbg o.dst x.dst
 | _,_ => none
def ziy (gops : Array Go.Oper) (xs : List Oper) (j : Nat) : List (Option Tmp):=(yj j).reverse.map (lo gops xs)
def zzF (gops : Array Go.Oper) (xs : List Oper) (j i : Nat) : Option Tmp:=if (zaF gops j).contains i then lo gops xs i else none
def zga (gops : Array Go.Oper) (xs : List Oper) (j : Nat) : List (Option Tmp):=(yj j).reverse.map (zzF gops xs j)
theorem zkr {α : Type} (f : Nat → α) {j d : Nat} (h : d < j) : ((yj j).reverse.map f)[d]? = some (f (j - 1 - d)):=by
 rw [List.getElem?_map,List.getElem?_reverse (by simpa using h),List.length_range,List.getElem?_range (by omega)];rfl
section
variable {P : Program} {κ : List Tmp} {nt : Nat} {gops : Array Go.Oper} {xs : List Oper}
theorem znw {Cf : zai} : ∀ (xs : List Oper) (r r1 : R),steps Cf xs r = some r1 → ∃ rr : Nat → R,rr 0 = r ∧ rr xs.length = r1 ∧ ∀ i x,xs[i]? = some x → step Cf (rr i) x = some (rr (i + 1))
 | [],r,r1,h => by
   simp only [steps,Option.some.injEq] at h;exact ⟨fun _ => r,rfl,h,fun i x h => by simp at h⟩
 | x :: xs,r,r1,h => by
   simp only [steps,ya] at h;obtain ⟨e,f,d⟩:=h;obtain ⟨rr,b,g,c⟩:=znw xs e r1 d
   refine ⟨fun i => match i with
    | 0 => r
    | i + 1 => rr i,rfl,g,fun i y a => ?_⟩
   cases i with
   | zero =>
     simp at a;subst a;simp only [b];exact f
   | succ i => exact c i y (by simpa using a)
structure Mid (gops : Array Go.Oper) (xs : List Oper) (κ : List Tmp) (nt p : Nat) (envD : (Nat → Bool) → List V) (v : Nat → V) (σD : (Nat → Bool) → zd) (g0 : G) (w0 : World) (σ0 : zd) (D : Nat → Bool) (g : G) (w : World) (a : Act) : Prop where
 ext : Ext g0 w0 σ0 g w (σD D)
 rel : Rel g w (σD D)
 size : a.tmps.size = nt
 df : a.defers = []
 slot : ∀ (i : Nat) (t : Tmp),κ[i]? = some t → zf g w (σD D) ((envD D).getD i vun) (a.tmps.getD t undef)
 done : ∀ i t,i < p → D i = true → lo gops xs i = some t → zf g w (σD D) (v i) (a.tmps.getD t undef)
def zbn (D : Nat → Bool) (j : Nat) : Nat → Bool:=fun i => if i = j then true else D i
def Dof (listed : Array Bool) : Nat → Bool:=fun i => listed.getD i false
structure Plan (P : Program) (κ : List Tmp) (nt : Nat) (gops : Array Go.Oper) (xs : List Oper) (p : Nat) : Prop where
 len : xs.length = gops.size
 p_le : p ≤ gops.size
 back : ∀ j o,gops[j]? = some o → ∀ i ∈ zyH o,i < j
 pre : ∀ j o x,j < p → gops[j]? = some o → xs[j]? = some x → okD κ nt o.dst x.dst = true
 apart : ∀ i j t,i < p → j < p → lo gops xs i = some t → lo gops xs j = some t → i = j
 tail : ∀ j o x,p ≤ j → gops[j]? = some o → xs[j]? = some x → okD κ nt o.dst x.dst = true ∧ zgz κ (ziy gops xs j) gops o.guard x.guard = true ∧ znx P κ (ziy gops xs j) o x.dst x.op = true ∧ ∀ i,i < j → Reach gops j i
variable {p b l : Nat} {envD : (Nat → Bool) → List V} {v : Nat → V} {σD : (Nat → Bool) → zd} {g0 : G} {w0 : World} {σ0 : zd} {rr : Nat → R}
def zh8 (gops : Array Go.Oper) (D : Nat → Bool) : Prop:=∀ j,D j = true → ∀ i ∈ zaF gops j,D i = true
theorem za7 {D : Nat → Bool} (b : zh8 gops D) {j i : Nat} (h : Reach gops j i) : (∀ i ∈ zaF gops j,D i = true) → D i = true:=by
 induction h with
 | edge h => exact fun a => a _ h
 | more h _ ih => exact fun a => ih fun i c => b _ (a _ h) i c
theorem zld {a : Array Bool} (k : a.size = gops.size) {j : Nat} : j ∈ Region.ready .any gops a ↔ (∃ o,gops[j]? = some o) ∧ Dof a j = false ∧ ∀ i ∈ zaF gops j,Dof a i = true:=by
 rw [mem_ready];constructor
 ·rintro ⟨c,o,b,h⟩
  have f : j < gops.size:=(yf.1 b).1;refine ⟨⟨o,b⟩,?_,fun i d => ?_⟩
  ·unfold Dof
   rw [yd,yc (by omega)] at c ⊢;exact c
  ·unfold zaF at d
   rw [b] at d;unfold zyH at d;rw [yx] at d;obtain ⟨e,he,rfl⟩:=d;rw [yv] at he;exact h e (by simpa using he.1) he.2
 ·rintro ⟨⟨o,b⟩,c,h⟩
  have f : j < gops.size:=(yf.1 b).1;refine ⟨?_,o,b,fun e he g => h e.on ?_⟩
  ·unfold Dof at c
   rw [yd,yc (by omega)] at c ⊢;exact c
  ·unfold zaF
   rw [b];unfold zyH;rw [yx];exact ⟨e,by rw [yv]; exact ⟨by simpa using he,g⟩,rfl⟩
theorem zjw {a : Array Bool} (c : a.size = gops.size) {j : Nat} (b : j < gops.size) : Dof (a.setIfInBounds j true) = zbn (Dof a) j:=by
 funext i
 show (a.setIfInBounds j true).getD i false = if i = j then true else a.getD i false
 rw [yd,yd,Array.getElem?_setIfInBounds]
 by_cases h : j = i
 ·subst h
  simp [c,b]
 ·rw [if_neg h,if_neg (fun e => h e.symm)]
theorem zr6 {D : Nat → Bool} (c : zh8 gops D) {j : Nat} (d : ∀ i ∈ zaF gops j,D i = true) : zh8 gops (zbn D j):=fun k a i b => by
 unfold zbn at a ⊢;split
 ·rfl
 ·split at a
  ·rename_i e; subst e; exact d i b
  ·exact c k a i b
theorem zkL {a : Array Bool} (g : a.size = gops.size) (k : ∀ j o,gops[j]? = some o → ∀ i ∈ zyH o,i < j) : ∀ (n : Nat) ,n < gops.size → Dof a n = false → Region.ready .any gops a ≠ []:=by
 intro n
 induction n using Nat.strongRecOn with
 | _ n ih =>
   intro b hd f
   by_cases h : ∀ i ∈ zaF gops n,Dof a i = true
   ·have : n ∈ Region.ready .any gops a:=(zld g).2 ⟨⟨gops[n],yc b⟩,hd,h⟩
    rw [f] at this;simp at this
   ·simp only [Classical.not_forall] at h
    obtain ⟨i,d,c⟩:=h
    have e : i < n:=by
     unfold zaF at d;rw [yc b] at d;exact k n _ (yc b) i d
    exact ih i e (by omega) (by simpa using c) f
theorem zur (pl : Plan P κ nt gops xs p) (hlen : ∀ D,(envD D).length = κ.length) (n : κ.Nodup) (m : ∀ t ∈ κ,t < nt) {D : Nat → Bool} {g : G} {w : World} {a : Act} (M : Mid gops xs κ nt p envD v σD g0 w0 σ0 D g w a) {j : Nat} (B : j ≤ p) {f : Nat → Option Tmp} (q : ∀ i t,i < j → f i = some t → D i = true ∧ lo gops xs i = some t) :
  Fr κ ((yj j).reverse.map f) nt g w ⟨(yj j).reverse.map v,envD D,σD D,b,l⟩ a:=by
 refine ⟨M.size,hlen D,fun i t u => M.slot i t u,fun d t hd _ => ?_,fun d t hd => ?_,n,m,M.df⟩
 ·have e : d < j:=by have:=zb hd; simpa using this
  rw [zkr f e] at hd;injection hd with hd;obtain ⟨s,c⟩:=q _ t (by omega) hd;simp only [List.getD_eq_getElem?_getD,zkr v e,Option.getD_some];exact M.done _ t (by omega) s c
 ·have e : d < j:=by have:=zb hd; simpa using this
  rw [zkr f e] at hd;injection hd with hd;obtain ⟨_,c⟩:=q _ t (by omega) hd;unfold lo at c;split at c
  ·rename_i o x r z
   have y:=pl.pre _ o x (by omega) r z;unfold zbg at c;split at c
   ·rename_i A h k
    injection c with c;subst c;have:=y;rw [h,k] at this;simp only [okD,yg,yq] at this;simpa using this.1
   ·cases c
  ·cases c
def left (D : Nat → Bool) (l : List Nat) : Nat:=(l.filter fun i => !D i).length
theorem zzW (D : Nat → Bool) (j : Nat) : ∀ l : List Nat,left (zbn D j) l ≤ left D l
 | [] => yl _
 | x :: l => by
   have a:=zzW D j l;unfold left at a ⊢;simp only [ym]
   by_cases b : x = j
   ·subst b
    cases D x <;> simp [zbn] at a ⊢ <;> omega
   ·have : zbn D j x = D x:=by simp [zbn,b]
    rw [this];cases D x <;> simp at a ⊢ <;> omega
theorem zvK (D : Nat → Bool) (j : Nat) (b : D j = false) : ∀ l : List Nat,j ∈ l → left (zbn D j) l < left D l
 | [],h => by simp at h
 | x :: l,h => by
   have hle:=zzW D j l
   by_cases a : x = j
   ·subst a
    unfold left at hle ⊢;simp only [ym,b];simp [zbn] at hle ⊢;omega
   ·have c:=zvK D j b l (by simpa [Ne.symm a] using h)
    unfold left at c ⊢;simp only [ym];have : zbn D j x = D x:=(by simp [zbn,a]);rw [this];cases D x <;> simp at c ⊢ <;> omega
theorem zuq {D : Nat → Bool} {n : Nat} (h : left D (yj n) = 0) : ∀ i,i < n → D i = true:=fun i a => by
 have:=List.eq_nil_of_length_eq_zero h;rw [List.filter_eq_nil_iff] at this;simpa using this i (by simpa using a)
variable {Q : Exit → Act → World → Prop} {Cf : zai}
theorem zuM {m : Nat} {o : Go.Oper} {x : Oper} (a : gops[m]? = some o) (b : xs[m]? = some x) : ziy gops xs (m + 1) = zbg o.dst x.dst :: ziy gops xs m:=by
 unfold ziy;rw [yw,List.reverse_append];simp [lo,a,b]
theorem ztB (S : zh3 P Cf) (pl : Plan P κ nt gops xs p) (r : ∀ i x,xs[i]? = some x → step Cf (rr i) x = some (rr (i + 1))) (e : ∀ g w a loc,Ext g0 w0 σ0 g w (rr gops.size).st → Rel g w (rr gops.size).st → Fr κ loc nt g w (rr gops.size) a → Q .normal a w) :
  ∀ (fuel m : Nat) (b : Array Bool) (g : G) (w : World) (a : Act),b.size = gops.size → p ≤ m → m ≤ gops.size → (∀ i,Dof b i = decide (i < m)) → gops.size ≤ m + fuel → Ext g0 w0 σ0 g w (rr m).st → Rel g w (rr m).st → Fr κ (ziy gops xs m) nt g w (rr m) a → wpAny P .any gops Q fuel b a w
 | fuel,m,b,g,w,a,hs,hpm,hm,hD,hf,H,R0,F => by
   have d : ∀ j,j ∈ Region.ready .any gops b → j = m ∧ j < gops.size:=fun j A => by
    obtain ⟨⟨o,n⟩,C,z⟩:=(zld hs).1 A;have c : j < gops.size:=(yf.1 n).1;rw [hD] at C;have E : ¬ j < m:=(by simpa using C);refine ⟨?_,c⟩;have s : xs[j]? = some (xs[j]'(by rw [pl.len]; exact c)):=yh (by rw [pl.len]; exact c);have q:=(pl.tail j o _ (by omega) n s).2.2.2
    have f : zh8 gops (Dof b):=fun k B i t => by
     rw [hD] at B ⊢;have L : k < m:=(by simpa using B);unfold zaF at t;split at t
     ·rename_i J y
      have:=pl.back k J y i t;simp; omega
     ·simp at t
    rcases yr m j with h | h
    ·have:=za7 f (q m h) z
     rw [hD] at this;simp at this
    ·omega
   have fin : Region.ready .any gops b = [] → Q .normal a w:=fun v => by
    have : m = gops.size:=by
     rcases yr m gops.size with h | h
     ·exact absurd v (zkL hs pl.back m h (by rw [hD]; simp))
     ·omega
    subst this;exact e g w a _ H R0 F
   cases fuel with
   | zero =>
     have v : Region.ready .any gops b = []:=by
      cases D : Region.ready .any gops b with
      | nil => rfl
      | cons j l =>
        have:=d j (by rw [D]; simp);omega
     exact ⟨v,fin v⟩
   | succ fuel =>
     refine ⟨fin,fun j A => ?_⟩;obtain ⟨rfl,c⟩:=d j A;have n : gops[j]? = some gops[j]:=yc c;have s : xs[j]? = some (xs[j]'(by rw [pl.len]; exact c)):=yh (by rw [pl.len]; exact c);obtain ⟨z,M,I,_⟩:=pl.tail j _ _ hpm n s
     have key:=zfb (Q:=Q) (gops:=gops) (next:=wpAny P .any gops Q fuel (b.setIfInBounds j true)) S R0 F z M I (r j _ s) (fun g' w' u H1 O _ N =>
      ztB S pl r e fuel (j + 1) _ g' w' _ (by simpa using hs) (by omega) (by omega) (fun i => by
       rw [zjw hs c];unfold zbn;split
       ·simp; omega
       ·rw [hD]
        rename_i K;simp only [decide_eq_decide]
        omega) (by omega) (H.trans H1) O (by rw [zuM n s]; exact N)) (fun _ h => h)
     unfold wpOp;simp only [n];split
     ·rename_i hw
      rw [if_pos hw] at key;exact .inl key
     ·rename_i hw
      rw [if_neg hw] at key;exact key
termination_by fuel => fuel
def Local (P : Program) (κ : List Tmp) (nt : Nat) (gops : Array Go.Oper) (xs : List Oper) (v : Nat → V) (envD : (Nat → Bool) → List V) (σD : (Nat → Bool) → zd) (p b l : Nat) : Prop :=
 ∀ (j : Nat) (o : Go.Oper) (x : Oper) (D : Nat → Bool) (g : G) (w : World) (a : Act) (next : Act → World → Prop) (Q : Exit → Act → World → Prop),j < p → gops[j]? = some o → xs[j]? = some x → D j = false → (∀ i ∈ zaF gops j,D i = true) → zh8 gops D → (∀ i,p ≤ i → D i = false) → Rel g w (σD D) →
   Fr κ (zga gops xs j) nt g w ⟨(yj j).reverse.map v,envD D,σD D,b,l⟩ a →
   (∀ g' w' u,Ext g w (σD D) g' w' (σD (zbn D j)) → Rel g' w' (σD (zbn D j)) → Fr κ (zbg o.dst x.dst :: zga gops xs j) nt g' w' ⟨v j :: (yj j).reverse.map v,envD (zbn D j),σD (zbn D j),b,l⟩ (a.put o.dst u) → next (a.put o.dst u) w') →
   if Region.wanted o (yielded gops a.tmps) then o.wp P a w next Q else next (a.put o.dst undef) w
theorem zpY (pl : Plan P κ nt gops xs p) {i : Nat} {t : Tmp} (f : i < p) (h : lo gops xs i = some t) : t ∉ κ:=by
 unfold lo at h;split at h
 ·rename_i o x d e
  have c:=pl.pre _ o x f d e;unfold zbg at h;split at h
  ·rename_i g a b
   injection h with h;subst h;rw [a,b] at c;simp only [okD,yg,yq] at c;simpa using c.1
  ·cases h
 ·cases h
theorem zvY (S : zh3 P Cf) (pl : Plan P κ nt gops xs p) (LS : Local P κ nt gops xs v envD σD p b l) (aD : ∀ i x,xs[i]? = some x → step Cf (rr i) x = some (rr (i + 1)))
  (Y : (rr p).rs = (yj p).reverse.map v) (hlen : ∀ D,(envD D).length = κ.length) (K : κ.Nodup) (L : ∀ t ∈ κ,t < nt)
  (I : ∀ D,(∀ i,D i = decide (i < p)) → σD D = (rr p).st ∧ envD D = (rr p).env)
  (C : ∀ g w a loc,Ext g0 w0 σ0 g w (rr gops.size).st → Rel g w (rr gops.size).st → Fr κ loc nt g w (rr gops.size) a → Q .normal a w) :
  ∀ (fuel : Nat) (c : Array Bool) (g : G) (w : World) (a : Act),c.size = gops.size → (∀ i,p ≤ i → Dof c i = false) → zh8 gops (Dof c) → left (Dof c) (yj gops.size) ≤ fuel → Mid gops xs κ nt p envD v σD g0 w0 σ0 (Dof c) g w a → wpAny P .any gops Q fuel c a w
 | fuel,c,g,w,a,hs,hp,hcl,hf,M => by
   by_cases k : ∀ i,i < p → Dof c i = true
   ·have Z : ∀ i,Dof c i = decide (i < p):=fun i => by
     by_cases r : i < p
     ·simp [r,k i r]
     ·simp [r,hp i (by omega)]
    obtain ⟨aH,aJ⟩:=I _ Z;have H:=M.ext;have R0:=M.rel;rw [aH] at H R0;have s:=zur (b:=b) (l:=l) pl hlen K L M (yl p) (f:=lo gops xs) (fun i t r m => ⟨k i r,m⟩);rw [aH,aJ,← Y] at s;have F : Fr κ (ziy gops xs p) nt g w (rr p) a:=⟨s.size,s.len,s.env,s.lc,s.lk,s.nd,s.bd,s.df⟩;refine ztB S pl aD C fuel p c g w a hs (yl _) pl.p_le Z ?_ H R0 F
    have A : ∀ n,n ≤ gops.size → n ≤ p + left (Dof c) (yj n):=fun n => by
     induction n with
     | zero => intro _; omega
     | succ n ih =>
       intro hn;have:=ih (by omega);unfold left at this ⊢;rw [yw,List.filter_append,List.length_append]
       by_cases aK : n < p
       ·omega
       ·have U:=hp n (by omega)
        simp [U];omega
    have:=A gops.size (yl _);omega
   ·have z : ∀ j,j ∈ Region.ready .any gops c → j < p ∧ j < gops.size ∧ Dof c j = false ∧ ∀ i ∈ zaF gops j,Dof c i = true:=fun j hj => by
     obtain ⟨⟨o,B⟩,U,O⟩:=(zld hs).1 hj;have d : j < gops.size:=(yf.1 B).1;refine ⟨?_,d,U,O⟩;rcases yr j p with h | h
     ·exact h
     ·have R : xs[j]? = some (xs[j]'(by rw [pl.len]; exact d)):=yh (by rw [pl.len]; exact d)
      have aA:=(pl.tail j o _ h B R).2.2.2;exact absurd (fun i r => za7 hcl (aA i (by omega)) O) k
    obtain ⟨i0,aB⟩:=Classical.not_forall.1 k;obtain ⟨aB,aC⟩:=Classical.not_imp.1 aB;have aG : Region.ready .any gops c ≠ []:=zkL hs pl.back i0 (by have:=pl.p_le; omega) (by simpa using aC)
    cases fuel with
    | zero =>
      have:=zuq (Nat.le_zero.1 hf) i0 (by have:=pl.p_le; omega);exact absurd this aC
    | succ fuel =>
      refine ⟨fun hr => absurd hr aG,fun j hj => ?_⟩;obtain ⟨y,d,U,O⟩:=z j hj;have B : gops[j]? = some gops[j]:=yc d;have R : xs[j]? = some (xs[j]'(by rw [pl.len]; exact d)):=yh (by rw [pl.len]; exact d);have hd:=pl.pre j _ _ y B R
      have F:=zur (b:=b) (l:=l) pl hlen K L M (Nat.le_of_lt y) (f:=zzF gops xs j) (fun i t r m => by
       unfold zzF at m;split at m
       ·rename_i hc
        exact ⟨O i (by simpa using hc),m⟩
       ·cases m)
      have key:=LS j _ _ (Dof c) g w a (wpAny P .any gops Q fuel (c.setIfInBounds j true)) Q y B R U O hcl hp M.rel F (fun g' w' u H1 R1 F1 =>
       zvY S pl LS aD Y hlen K L I C fuel _ g' w' _ (by simpa using hs) (fun i r => by
        rw [zjw hs d];unfold zbn;split
        ·omega
        ·exact hp i r) (by rw [zjw hs d]; exact zr6 hcl O) (by
        rw [zjw hs d];have:=zvK (Dof c) j U (yj gops.size) (by simpa using d)
        omega) (by
        rw [zjw hs d];refine ⟨M.ext.trans H1,R1,F1.size,F1.df,fun i t m => ?_,fun i t r W m => ?_⟩
        ·exact F1.env i t m
        ·by_cases J : i = j
         ·subst J
          have N : zbg gops[i].dst (xs[i]'(by rw [pl.len]; exact d)).dst = some t:=by
           unfold lo at m;rw [B,R] at m;exact m
          have:=F1.lc 0 t (by simp [N]) (by simp);simpa using this
         ·have aE : Dof c i = true:=by
           unfold zbn at W
           rwa [if_neg J] at W
          have hold:=H1.zf _ _ (M.done i t r aE m)
          have aF : (a.put gops[j].dst u).tmps.getD t undef = a.tmps.getD t undef:=by
           cases E : gops[j].dst with
           | none => rfl
           | some t' =>
             have V : t' ≠ t:=fun e => by
              subst e;rw [E] at hd;unfold okD at hd;split at hd
              ·rename_i heq _; cases heq
              ·
               rename_i t2 heq aI;injection heq with heq;subst heq
               have X : lo gops xs j = some t':=by
                unfold lo;rw [B,R];simp [zbg,E,aI]
               exact J (pl.apart i j t' r y m X)
              ·
               rename_i t2 q heq aI;injection heq with heq;subst heq;have hk : t' ∈ κ:=List.mem_of_getElem? (by simpa using hd);have N:=zpY pl r m;exact N hk
              ·cases hd
             simp only [Act.put,zis];rw [if_neg (by simp [V])]
          rw [aF]
          exact hold))
      unfold wpOp;simp only [B];split
      ·rename_i hw
       rw [if_pos hw] at key;exact .inl key
      ·rename_i hw
       rw [if_neg hw] at key;exact key
termination_by fuel => fuel
end
def zFL : Option X → List X
 | some x => [x]
 | none => []
def opX : Op → List X
 | .mv x | .un _ x | .conv _ x | .len x | .fa _ x | .ld _ x | .box _ x | .stn _ x | .ext x _ | .fld _ _ x | .nil x | .mks _ _ x | .mkc _ x | .mkr _ _ _ x => [x]
 | .pick c a b => [c,a,b]
 | .cpy _ x y | .bin _ x y | .eqa _ _ x y | .beq _ x y | .ia _ x y | .iaa _ _ x y | .st _ x y | .app _ x y | .lk _ _ x y | .mxn _ x y => [x,y]
 | .al _ _ | .nl _ _ | .mkm | .no _ => []
 | .bld _ parts _ => parts.map fun p => p.2.2
 | .bsl _ _ _ parts => parts.map fun p => p.2
 | .slc _ x lo hi mx => x :: (zFL lo ++ zFL hi ++ zFL mx)
 | .mkf _ first caps => first ++ caps
 | .mu m k v => [m,k,v]
 | .call _ f args => f :: args
def za5 : Op → Nat
 | .mv _ | .pick .. | .bin .. | .eqa .. | .beq .. | .un .. | .conv .. | .len _ | .fa .. | .iaa .. | .ext .. | .fld .. | .nil _ | .mkf .. | .mxn .. => 0
 | .bsl .fz _ _ _ => 0
 | .nl .fz _ => 0
 | .bld _ _ [] => 0
 | .ia .. | .slc .. => 1
 | .ld .. | .lk .. => 2
 | .call .cl _ _ => 2
 | .st .. => 3
 | .al .. | .box .. | .mks .. | .mkc .. | .mkr .. | .mkm | .nl .. | .bsl .. | .bld .. => 4
 | _ => 5
section
variable {Cf : zai} {r r' r1 : R} {d : D}
theorem zsh {x : Option V} {r1 : R} (h : x.map (r.put d) = some r1) : ∃ v,x = some v ∧ r1 = r.put d v:=by
 rw [yb] at h;obtain ⟨v,b,a⟩:=h;exact ⟨v,b,a.symm⟩
theorem zpN {a : Nat} {x : Option X} (h : ∀ y ∈ zFL x,r'.get y = r.get y) : bound r' a x = bound r a x:=by
 cases x with
 | none => rfl
 | some y => simp [bound,h y (by simp [zFL])]
theorem zma : ∀ {a : List (Nat × Nat × X)} {cs : List C},(∀ y ∈ a.map (fun p => p.2.2),r'.get y = r.get y) → zol r' a cs = zol r a cs
 | [],_,_ => rfl
 | (off,sz,x) :: a,cs,h => by
   simp only [zol,h x (by simp)]
   congr 1
   exact congrArg _ (funext fun c => zma fun y b => h y (by simp at b ⊢; exact .inr b))
theorem zmB {sz : Nat} : ∀ {a : List (Nat × X)} {cs : List (List C)},(∀ y ∈ a.map (fun p => p.2),r'.get y = r.get y) → zpd r' sz a cs = zpd r sz a cs
 | [],_,_ => rfl
 | (i,x) :: a,cs,h => by
   simp only [zpd,h x (by simp)]
   congr 1
   exact zmB fun y b => h y (by simp at b ⊢; exact .inr b)
theorem zi5 : ∀ {ys : List X},(∀ y ∈ ys,r'.get y = r.get y) → r'.gets ys = r.gets ys
 | [],_ => rfl
 | y :: ys,h => by
   have b:=zi5 (ys:=ys) fun z a => h z (yo _ a);simp only [R.gets,h y (by simp),b]
structure Same (n : Nat) (σ σ' : zd) : Prop where
 get : ∀ id o,id < n → σ[id]? = some o → σ'[id]? = some o
structure SameRow (n : Nat) (σ σ' : zd) : Prop where
 row : ∀ id ver sz o,id < n → σ[id]? = some o → o.isRow ver sz = true → ∃ o',σ'[id]? = some o' ∧ o'.isRow ver sz = true
theorem Same.rows {n : Nat} {σ σ' : zd} (h : Same n σ σ') : SameRow n σ σ':=⟨fun id d sz o a c b => ⟨o,h.get id o a c,b⟩⟩
theorem zAm {n : Nat} {σ σ' : zd} (h : Same n σ σ') {v v' : V} (f : v.lt n = true) (a : zEF σ v = some v') : zEF σ' v = some v':=by
 unfold zEF at a ⊢;split at a
 ·rename_i id g lo m
  have c : id < n:=by simpa [V.lt,C.lt] using f
  rw [yb] at a ⊢;obtain ⟨xs,b,d⟩:=a;rw [ya] at b;obtain ⟨o,b,e⟩:=b;exact ⟨xs,by rw [ya]; exact ⟨o,h.get id o c b,e⟩,d⟩
 all_goals exact a
theorem zsq {n : Nat} {σ σ' : zd} (h : Same n σ σ') : ∀ {vs a : List V},V.lts n vs = true → zrs σ vs = some a → zrs σ' vs = some a
 | [],_,_,hv => hv
 | v :: vs,a,hl,hv => by
   simp only [V.lts,yg] at hl;simp only [zrs] at hv ⊢;obtain ⟨y,z,c,b,rfl⟩:=zgv hv;rw [zAm h hl.1 c,zsq h hl.2 b];rfl
theorem zoA {n : Nat} : ∀ {a b : List V},V.lts n (a ++ b) = (V.lts n a && V.lts n b)
 | [],b => by simp [V.lts]
 | v :: a,b => by simp [V.lts,zoA (a:=a),Bool.and_assoc]
theorem zvH {n : Nat} : ∀ {cs : List C},V.lts n (cs.map V.one) = C.lts n cs
 | [] => rfl
 | c :: cs => by simp [V.lts,V.lt,C.lts,zvH (cs:=cs)]
theorem zwZ {n : Nat} : ∀ {ys : List X},(∀ y ∈ ys,(r.get y).lt n = true) → V.lts n (r.gets ys) = true
 | [],_ => rfl
 | y :: ys,h => by
   have b:=zwZ (ys:=ys) fun z a => h z (yo _ a);simp [R.gets,V.lts,h y (by simp),b]
theorem zov {op : Op} {n : Nat} (A : za5 op ≤ 2) (l : ∀ x ∈ opX op,r'.get x = r.get x) (E : ∀ x ∈ opX op,(r.get x).lt n = true) (P : za5 op = 1 → SameRow n r.st r'.st) (M : za5 op = 2 → Same n r.st r'.st) (h : zbm Cf r d op = some r1) :
  ∃ v,r1 = r.put d v ∧ zbm Cf r' d op = some (r'.put d v):=by
 have one : ∀ {x : Option V},x.map (r.put d) = some r1 → ∀ {y : Option V},(∀ v,x = some v → y = some v) → ∃ v,r1 = r.put d v ∧ y.map (r'.put d) = some (r'.put d v):=fun {x} hx {y} D => by
  obtain ⟨v,e1,e2⟩:=zsh hx;exact ⟨v,e2,by rw [D v e1]; rfl⟩
 cases op <;> simp only [zbm] at h ⊢ <;> simp only [opX,yt,yu,or_false,forall_eq_or_imp,forall_eq] at l E
 case mv x => injection h with h; exact ⟨_,h.symm,by rw [l]⟩
 case pick c x y => rw [l.1,l.2.1,l.2.2]; exact one h fun _ e => e
 case bin o x y => rw [l.1,l.2]; exact one h fun _ e => e
 case beq neg x y => rw [l.1,l.2]; exact one h fun _ e => e
 case eqa n neg x y => rw [l.1,l.2]; exact one h fun _ e => e
 case un o x => rw [l]; exact one h fun _ e => e
 case conv k x => rw [l]; exact one h fun _ e => e
 case len x => rw [l]; exact one h fun _ e => e
 case fa off x => rw [l]; exact one h fun _ e => e
 case iaa n' sz x i => rw [l.1,l.2]; exact one h fun _ e => e
 case ext x i => rw [l]; exact one h fun _ e => e
 case fld off sz x => rw [l]; exact one h fun _ e => e
 case nil x => rw [l]; exact one h fun _ e => e
 case mxn b x y => rw [l.1,l.2]; exact one h fun _ e => e
 case mkf f first G =>
  injection h with h;rw [zi5 (r:=r) (r':=r') fun y D => l y (yk _ D),zi5 (r:=r) (r':=r') fun y D => l y (yn _ D)];exact ⟨_,h.symm,rfl⟩
 case ia sz x i =>
  rw [l.1,l.2];refine one h fun v e => ?_;have z:=P rfl;unfold aia at e ⊢;split at e
  ·rename_i id u lo m X q heq _
   split at e
   ·rename_i H
    rw [if_pos H];rw [ya] at e ⊢;obtain ⟨o,e1,e2⟩:=e;unfold zu6 at e2;split at e2
    ·rename_i W
     have t : id < n:=by
      have:=E.1;rw [heq] at this;simpa [V.lt,C.lt] using this
     obtain ⟨Q,s,p⟩:=z.row id u sz o t e1 W;exact ⟨Q,s,by unfold zu6; rw [if_pos p]; exact e2⟩
    ·cases e2
   ·cases e
  all_goals exact e
 case slc sz x lo hi mx =>
  have z:=P rfl;have e1:=l.1
  have hm : zDJ r' hi mx = zDJ r hi mx:=by
   cases mx with
   | none => rfl
   | some m => cases hi with
     | none => rfl
     | some hh =>
       have s:=l.2 m (by simp [zFL]);have p:=l.2 hh (by simp [zFL]);simp only [zDJ,s,p]
  by_cases A : zDJ r hi mx = true
  case neg => rw [if_neg A] at h; cases h
  rw [if_pos A] at h;rw [if_pos (hm.trans A)];refine one h fun v e => ?_;have b1 : ∀ d,bound r' d lo = bound r d lo:=fun d => zpN fun y D => l.2 y (yk _ (yk _ D));have b2 : ∀ d,bound r' d hi = bound r d hi:=fun d => zpN fun y D => l.2 y (yk _ (yn _ D));rw [e1];unfold zGv at e ⊢;split at e
  ·rw [b1,b2]; exact e
  ·rw [b1,b2]; exact e
  ·rename_i id u U m heq
   rw [b1,b2];split at e
   ·cases e
   ·rename_i N
    rw [if_neg N];obtain ⟨a,b,s,p,w⟩:=zpu e;rw [s,p]
    show zAT r'.st sz id u U m a b = some v
    unfold zAT at w ⊢;split at w
    ·rename_i H
     have t : id < n:=by
      have:=E.1;rw [heq] at this;simpa [V.lt,C.lt] using this
     have I : (r'.st[id]?).any (Ob.isRow u sz) = true:=by
      have:=H.2.2
      cases L : r.st[id]? with
      | none => simp [L] at this
      | some o =>
        simp [L] at this;obtain ⟨Q,B,S⟩:=z.row id u sz o t L this;simp [B,S]
     rw [if_pos ⟨H.1,H.2.1,I⟩];exact w
    ·cases w
  ·cases e
 case ld sz x =>
  have J:=M rfl;rw [l];refine one h fun v e => ?_
  have key : ∀ {id u i : Nat} {el : List C},id < n → r.st.elem id u i = some el → r'.st.elem id u i = some el:=fun {id u i el} t he => by
   unfold zd.elem at he ⊢;rw [ya] at he ⊢;obtain ⟨o,s,p⟩:=he;exact ⟨o,J.get id o t s,p⟩
  unfold ald at e ⊢;split at e
  ·rename_i id u i off heq
   have t : id < n:=by
    have:=E;rw [heq] at this;simpa [V.lt,C.lt] using this
   rw [yb] at e ⊢;obtain ⟨c,s,p⟩:=e;unfold zd.cell at s ⊢;rw [ya] at s;obtain ⟨el,w,B⟩:=s;exact ⟨c,by rw [ya]; exact ⟨el,key t w,B⟩,p⟩
  ·exact e
  ·rename_i m id u i off heq
   have t : id < n:=by
    have:=E;rw [heq] at this;simpa [V.lt,C.lt] using this
   rw [yb] at e ⊢;obtain ⟨c,s,p⟩:=e;rw [ya] at s;obtain ⟨el,w,B⟩:=s;exact ⟨c,by rw [ya]; exact ⟨el,key t w,B⟩,p⟩
  ·exact e
  ·cases e
 case lk zero ok m k =>
  have J:=M rfl;rw [l.1,l.2];refine one h fun v e => ?_;unfold alk at e ⊢;split at e
  ·rename_i id X heq _
   have t : id < n:=by
    have:=E.1;rw [heq] at this;simpa [V.lt,C.lt] using this
   rw [yb] at e ⊢;obtain ⟨es,s,p⟩:=e;rw [ya] at s;obtain ⟨o,w,B⟩:=s;exact ⟨es,by rw [ya]; exact ⟨o,J.get id o t w,B⟩,p⟩
  ·exact e
  ·cases e
 case call m f args =>
  cases m
  case cl =>
   have J:=M rfl;have e1:=l.1;have e2:=zi5 (r:=r) (r':=r') (ys:=args) l.2;rw [e1,e2];unfold zph at h ⊢;split at h
   ·rename_i g first G heq
    simp only at h ⊢;rw [ya] at h;obtain ⟨x,s,p⟩:=h;rw [ya] at s;obtain ⟨aS,w,B⟩:=s
    have O : V.lts n (first.map V.one ++ (r.gets args ++ G.map V.one)) = true:=by
     have K:=E.1;rw [heq] at K;simp only [V.lt,C.lt,yg] at K;rw [zoA,zoA,zvH,zvH,zwZ E.2,K.1,K.2];rfl
    rw [zsq J O w];simp only [ye,B];unfold zxm at p ⊢;split at p
    ·rename_i H
     injection p with p;exact ⟨_,p.symm,by rw [if_pos H]⟩
    ·cases p
   ·cases h
  all_goals (simp only [za5] at A; omega)
 case bsl b sz zero parts =>
  cases b <;> simp only [za5] at A
  case fz =>
   rw [zmB (r:=r) (r':=r') l];rw [ya] at h;obtain ⟨es,s,p⟩:=h;simp only [zxc,yb] at p;obtain ⟨xs,p,w⟩:=p;exact ⟨vsl xs,w.symm,by rw [s]; simp only [ye,zxc,p,yi,zFI]⟩
  all_goals omega
 case nl b sz =>
  cases b <;> simp only [za5] at A
  case fz =>
   simp only [anl,Option.some.injEq] at h ⊢;exact ⟨_,h.symm,rfl⟩
  all_goals omega
 case bld zero parts fresh =>
  cases fresh with
  | nil =>
    rw [zma (r:=r) (r':=r') l];rw [yb] at h;obtain ⟨cs,s,p⟩:=h;simp only [zgZ] at s ⊢;refine ⟨.agg cs,?_,by rw [s]; simp [zFY,tokens,R.allocs]⟩;rw [← p];simp [zFY,tokens,R.allocs]
  | cons j js => simp only [za5] at A; omega
 all_goals (simp only [za5] at A; omega)
end
mutual
theorem exC : ∀ c : C,∃ n,∀ m,n ≤ m → c.lt m = true
 | .f _ => ⟨0,fun _ _ => by simp [C.lt]⟩
 | .ap t _ _ => ⟨t + 1,fun _ h => by simp [C.lt]; omega⟩
 | .ptr id _ _ _ => ⟨id + 1,fun _ h => by simp [C.lt]; omega⟩
 | .fp _ _ => ⟨0,fun _ _ => by simp [C.lt]⟩
 | .own id _ _ _ => ⟨id + 1,fun _ h => by simp [C.lt]; omega⟩
 | .map id => ⟨id + 1,fun _ h => by simp [C.lt]; omega⟩
 | .fn _ a b => by
   obtain ⟨n,e⟩:=zHh a;obtain ⟨m,d⟩:=zHh b;exact ⟨max n m,fun k g => by simp only [C.lt,yg]; exact ⟨e k (by omega),d k (by omega)⟩⟩
 | .un => ⟨0,fun _ _ => by simp [C.lt]⟩
theorem zHh : ∀ cs : List C,∃ n,∀ m,n ≤ m → C.lts m cs = true
 | [] => ⟨0,fun _ _ => rfl⟩
 | c :: cs => by
   obtain ⟨n,b⟩:=exC c;obtain ⟨m,a⟩:=zHh cs;exact ⟨max n m,fun k d => by simp only [C.lts,yg]; exact ⟨b k (by omega),a k (by omega)⟩⟩
end
mutual
theorem exV : ∀ c : V,∃ n,∀ m,n ≤ m → c.lt m = true
 | .one c => by
   obtain ⟨n,h⟩:=exC c;exact ⟨n,fun m hm => by simp only [V.lt]; exact h m hm⟩
 | .agg cs => by
   obtain ⟨n,h⟩:=zHh cs;exact ⟨n,fun m hm => by simp only [V.lt]; exact h m hm⟩
 | .tup vs => by
   obtain ⟨n,h⟩:=zH6 vs;exact ⟨n,fun m hm => by simp only [V.lt]; exact h m hm⟩
theorem zH6 : ∀ cs : List V,∃ n,∀ m,n ≤ m → V.lts m cs = true
 | [] => ⟨0,fun _ _ => rfl⟩
 | c :: cs => by
   obtain ⟨n,b⟩:=exV c;obtain ⟨m,a⟩:=zH6 cs;exact ⟨max n m,fun k d => by simp only [V.lts,yg]; exact ⟨b k (by omega),a k (by omega)⟩⟩
end
theorem exX (f : X → V) : ∀ xs : List X,∃ n,∀ m,n ≤ m → ∀ x ∈ xs,(f x).lt m = true
 | [] => ⟨0,fun _ _ x h => by simp at h⟩
 | x :: xs => by
   obtain ⟨n,c⟩:=exV (f x);obtain ⟨m,b⟩:=exX f xs;refine ⟨max n m,fun k d y a => ?_⟩;rcases yt.1 a with rfl | a
   ·exact c k (by omega)
   ·exact b k (by omega) y a
section
variable {Cf : zai} {r r' r1 : R} {d : D}
def R.at (r : R) (σ : zd) : R:={ r with st:=σ }
def zCB (c : Nat) (σ σ1 : zd) : Prop:=(c ≤ 2 → σ1 = σ) ∧ (c = 3 → σ1.length = σ.length ∧ ∀ n,SameRow n σ σ1 ∧ SameRow n σ1 σ) ∧ (c = 4 → ∃ os,σ1 = σ ++ os)
theorem zwV {op : Op} (t : ∀ x ∈ opX op,r'.get x = r.get x) (a : r'.st = r.st) (h : zbm Cf r d op = some r1) :
  ∃ v σ1,r1 = (r.at σ1).put d v ∧ zbm Cf r' d op = some ((r'.at σ1).put d v) ∧ zCB (za5 op) r.st σ1:=by
 by_cases C : za5 op ≤ 2
 ·
  obtain ⟨n,D⟩:=exX r.get (opX op);obtain ⟨v,l,c⟩:=zov (n:=n) C t (D n (yl _)) (fun _ => by rw [a]; exact ⟨fun id K sz o _ u y => ⟨o,u,y⟩⟩) (fun _ => by rw [a]; exact ⟨fun id o _ u => u⟩) h;refine ⟨v,r.st,l,?_,fun _ => rfl,fun h => by omega,fun h => by omega⟩;rw [c,← a];rfl
 ·have e4 : ∀ {os : List Ob},za5 op = 4 → zCB (za5 op) r.st (r.st ++ os):=fun {os} p => ⟨fun h => by omega,fun h => by omega,fun _ => ⟨os,rfl⟩⟩
  have e5 : ∀ {σ1 : zd},za5 op = 5 → zCB (za5 op) r.st σ1:=fun {σ1} p => ⟨fun h => by omega,fun h => by omega,fun h => by omega⟩
  have anl' : ∀ {b : B} {sz : Nat},b ≠ .fz → anl r d sz b = some r1 → ∃ v os,r1 = (r.at (r.st ++ os)).put d v ∧ anl r' d sz b = some ((r'.at (r.st ++ os)).put d v):=fun {b sz} hb D => by
   cases b with
   | fz => exact absurd rfl hb
   | tk =>
     simp only [anl,Option.some.injEq] at D ⊢;exact ⟨_,_,D.symm,by simp only [R.alloc,R.at,a]⟩
   | rw =>
     simp only [anl,Option.some.injEq] at D ⊢;exact ⟨_,_,D.symm,by simp only [R.alloc,R.at,a]⟩
  cases op <;> simp only [zbm] at h ⊢ <;> simp only [opX,yt,yu,or_false,forall_eq_or_imp,forall_eq] at t
  case st sz x v =>
   rw [t.1,t.2];rw [yb] at h;obtain ⟨N,h,rfl⟩:=h;unfold ast at h ⊢;split at h
   ·rename_i id K i off heq
    split at h
    ·rename_i I
     rw [if_pos I];unfold R.write at h ⊢;split at h
     ·rename_i G
      rw [if_pos G,a];rw [yb] at h;obtain ⟨M,l,rfl⟩:=h;rw [l];refine ⟨vun,r.st.set id M,rfl,by simp only [yi,R.setOb,R.at,a],fun h => by simp [za5] at h,fun _ => ⟨by simp,fun n => ⟨⟨fun A w H o _ u y => ?_⟩,⟨fun A w H o _ u y => ?_⟩⟩⟩,fun h => by simp [za5] at h⟩
      ·rw [ya] at l
       obtain ⟨L,c,q⟩:=l
       by_cases e : A = id
       ·subst e
        rw [c] at u;injection u with u;subst u;unfold Ob.write at q;split at q
        ·split at q
         ·rw [yb] at q
          obtain ⟨O,_,rfl⟩:=q;exact ⟨_,zD c,by simpa [Ob.isRow,upd] using y⟩
         ·cases q
        ·cases q
       ·exact ⟨o,by rw [yp (Ne.symm e)]; exact u,y⟩
      ·rw [ya] at l
       obtain ⟨L,c,q⟩:=l
       by_cases e : A = id
       ·subst e
        rw [zD c] at u;injection u with u;subst u;refine ⟨L,c,?_⟩;unfold Ob.write at q;split at q
        ·split at q
         ·rw [yb] at q
          obtain ⟨O,_,rfl⟩:=q;simpa [Ob.isRow,upd] using y
         ·cases q
        ·cases q
       ·exact ⟨o,by rw [yp (Ne.symm e)] at u; exact u,y⟩
     ·cases h
    ·cases h
   ·cases h
  case al zero fresh =>
   injection h with h;exact ⟨_,_,h.symm,by simp only [aal,R.allocs,R.at,a],e4 rfl⟩
  case box sz x =>
   rw [t];split at h
   ·rename_i p
    injection h with h;exact ⟨_,_,h.symm,by rw [if_pos p]; simp only [R.alloc,R.at,a],e4 rfl⟩
   ·cases h
  case mks zero fresh n =>
   rw [t];unfold zF2 at h ⊢;split at h
   ·split at h
    ·rename_i p
     injection h with h;exact ⟨_,_,h.symm,by rw [if_pos p]; simp only [R.alloc,R.at,a],e4 rfl⟩
    ·cases h
   ·split at h
    ·rename_i p
     injection h with h;exact ⟨_,_,h.symm,by rw [if_pos p]; simp only [R.allocs,R.at,a],e4 rfl⟩
    ·cases h
   ·cases h
  case mkr zero j sz n =>
   rw [t];unfold zGt at h ⊢;split at h
   ·split at h
    ·rename_i p
     injection h with h;exact ⟨_,_,h.symm,by rw [if_pos p]; simp only [R.allocs,R.at,a],e4 rfl⟩
    ·cases h
   ·cases h
  case mkc sz n =>
   rw [t];unfold zGy at h ⊢;split at h
   ·split at h
    ·rename_i p
     injection h with h;exact ⟨_,_,h.symm,by rw [if_pos p]; simp only [R.alloc,R.at,a],e4 rfl⟩
    ·cases h
   ·cases h
  case mkm =>
   injection h with h;exact ⟨_,_,h.symm,by simp only [R.alloc,R.at,a],e4 rfl⟩
  case nl b sz =>
   cases b
   case fz => simp [za5] at C
   case tk => obtain ⟨v,os,l,c⟩:=anl' (by simp) h; exact ⟨v,_,l,c,e4 rfl⟩
   case rw => obtain ⟨v,os,l,c⟩:=anl' (by simp) h; exact ⟨v,_,l,c,e4 rfl⟩
  case bsl b sz zero parts =>
   rw [zmB (r:=r) (r':=r') t];rw [ya] at h;obtain ⟨es,l,c⟩:=h;rw [l];cases b
   case fz => simp [za5] at C
   case tk =>
    simp only [zxc,yb] at c;obtain ⟨xs,c,rfl⟩:=c;exact ⟨_,_,rfl,by simp only [ye,zxc,c,yi,zAz,R.alloc,R.at,a],e4 rfl⟩
   case rw =>
    simp only [zxc,Option.some.injEq] at c;subst c;exact ⟨_,_,rfl,by simp only [ye,zxc,R.alloc,R.at,a],e4 rfl⟩
  case bld zero parts fresh =>
   rw [zma (r:=r) (r':=r') t,a];rw [yb] at h;obtain ⟨cs,l,rfl⟩:=h;rw [l];refine ⟨.agg cs,r.st ++ tokens fresh,rfl,by simp only [yi,zFY,R.allocs,R.at,a],e4 ?_⟩
   cases fresh with
   | nil => simp [za5] at C
   | cons j js => rfl
  case cpy sz s x =>
   rw [t.1,t.2,a];rw [ya] at h;obtain ⟨ys,l,c⟩:=h;rw [l];simp only [ye];split at c
   ·rename_i z
    rw [if_pos z];unfold zGf at c ⊢;split at c
    ·split at c
     ·cases c
     ·rename_i G
      simp only [if_neg G];rw [ya] at c;obtain ⟨o,q,g⟩:=c;rw [a,q];simp only [ye]
      cases o with
      | tok _ _ => simp [zkE] at g
      | mp _ => simp [zkE] at g
      | cells w H es =>
        simp only [zkE] at g ⊢;split at g
        ·rename_i p
         injection g with g;exact ⟨_,_,g.symm,by rw [if_pos p]; simp only [R.setOb,R.at,a],e5 rfl⟩
        ·cases g
    ·cases c
   ·cases c
  case app sz s x =>
   rw [t.1,t.2,a];rw [ya] at h;obtain ⟨ys,l,c⟩:=h;rw [l];simp only [ye];split at c
   ·rename_i z
    rw [if_pos z];unfold zES at c ⊢;split at c
    ·rw [ya] at c
     obtain ⟨o,q,g⟩:=c;rw [a,q];simp only [ye];unfold zoW at g ⊢;split at g
     ·rename_i p
      injection g with g;exact ⟨_,_,g.symm,by rw [if_pos p]; simp only [R.setOb,R.at,a],e5 rfl⟩
     ·cases g
    ·rw [ya] at c
     obtain ⟨o,q,g⟩:=c;rw [a,q];simp only [ye];unfold zvq at g ⊢;split at g
     ·rename_i p
      injection g with g;exact ⟨_,_,g.symm,by rw [if_pos p]; simp only [R.setOb,R.at,a],e5 rfl⟩
     ·rename_i J
      split at g
      ·rename_i p
       injection g with g;exact ⟨_,_,g.symm,by rw [if_neg J,if_pos p]; simp only [R.at,← a],e5 rfl⟩
      ·cases g
    ·split at c
     ·rename_i p
      injection c with c;exact ⟨_,_,c.symm,by rw [if_pos p]; simp only [R.alloc,R.at,a],e5 rfl⟩
     ·cases c
    ·cases c
   ·cases c
  case stn sz x =>
   rw [t];rw [yb] at h;obtain ⟨N,h,rfl⟩:=h;unfold zG8 ast at h ⊢;split at h
   ·split at h
    ·rename_i I
     rw [a,if_pos I];unfold R.write at h ⊢;simp only [R.alloc,a] at h ⊢;split at h
     ·rename_i G
      rw [if_pos G];rw [yb] at h;obtain ⟨M,h,rfl⟩:=h;rw [h];exact ⟨_,_,rfl,by simp only [yi,R.setOb,R.at],e5 rfl⟩
     ·cases h
    ·cases h
   ·cases h
  case mu m k v =>
   rw [t.1,t.2.1,t.2.2];rw [yb] at h;obtain ⟨N,h,rfl⟩:=h;unfold amu at h ⊢;split at h
   ·rw [yb] at h
    obtain ⟨es,l,rfl⟩:=h;rw [a,l];exact ⟨vun,_,rfl,by simp only [yi,zGW,R.setOb,R.at,a],e5 rfl⟩
   ·cases h
  case call m f args =>
   have e1:=t.1;have e2:=zi5 (r:=r) (r':=r') (ys:=args) t.2;rw [e1,e2];unfold zph at h ⊢;split at h
   ·cases m
    case cl => simp [za5] at C
    case ck =>
     simp only at h ⊢;split at h
     ·cases h
     ·rename_i E
      rw [if_neg E,a];rw [yb] at h;obtain ⟨x,l,rfl⟩:=h;rw [l];exact ⟨_,_,rfl,by simp only [yi,zxD,R.at,a],e5 rfl⟩
    case op =>
     simp only at h ⊢;rw [a];rw [yb] at h;obtain ⟨x,l,rfl⟩:=h;rw [l];exact ⟨_,_,rfl,by simp only [yi,zw6,R.at],e5 rfl⟩
   ·cases h
  all_goals first
   | (simp [za5] at C; done)
   | (cases h; done)
def zfu (x : Oper) : List X:=opX x.op ++ (match x.guard with
 | some (y,_) => [y]
 | none => [])
theorem zgF {x : Oper} {n : Nat} (j : za5 x.op ≤ 2) (c : ∀ y ∈ zfu x,r'.get y = r.get y) (i : ∀ y ∈ zfu x,(r.get y).lt n = true) (k : za5 x.op = 1 → SameRow n r.st r'.st) (f : za5 x.op = 2 → Same n r.st r'.st) (h : step Cf r x = some r1) :
  ∃ v,r1 = r.put x.dst v ∧ step Cf r' x = some (r'.put x.dst v):=by
 obtain ⟨d,op,g⟩:=x
 cases g with
 | none => exact zov j (fun y a => c y (by simp [zfu,a])) (fun y a => i y (by simp [zfu,a])) k f h
 | some p =>
   obtain ⟨y,b⟩:=p;simp only [step] at h ⊢;rw [c y (by simp [zfu])];unfold zo7 at h ⊢;split at h
   ·split at h
    ·rename_i e
     rw [if_pos e];exact zov j (fun y a => c y (by simp [zfu,a])) (fun y a => i y (by simp [zfu,a])) k f h
    ·rename_i e
     rw [if_neg e];injection h with h;exact ⟨.tup [],h.symm,rfl⟩
   ·injection h with h
    exact ⟨.tup [],h.symm,rfl⟩
   ·cases h
def zBK (c : Nat) (σ σ1 : zd) : Prop:=σ1 = σ ∨ zCB c σ σ1
theorem zta {x : Oper} (c : ∀ y ∈ zfu x,r'.get y = r.get y) (a : r'.st = r.st) (h : step Cf r x = some r1) :
  ∃ v σ1,r1 = (r.at σ1).put x.dst v ∧ step Cf r' x = some ((r'.at σ1).put x.dst v) ∧ zBK (za5 x.op) r.st σ1:=by
 obtain ⟨d,op,g⟩:=x
 cases g with
 | none =>
   obtain ⟨v,σ1,f,i,e⟩:=zwV (fun y j => c y (by simp [zfu,j])) a h;exact ⟨v,σ1,f,i,.inr e⟩
 | some p =>
   obtain ⟨y,b⟩:=p;simp only [step] at h ⊢;rw [c y (by simp [zfu])];unfold zo7 at h ⊢;split at h
   ·split at h
    ·rename_i k
     rw [if_pos k];obtain ⟨v,σ1,f,i,e⟩:=zwV (fun y j => c y (by simp [zfu,j])) a h;exact ⟨v,σ1,f,i,.inr e⟩
    ·rename_i k
     rw [if_neg k];injection h with h;exact ⟨.tup [],r.st,h.symm,by rw [← a]; rfl,.inl rfl⟩
   ·injection h with h
    exact ⟨.tup [],r.st,h.symm,by rw [← a]; rfl,.inl rfl⟩
   ·cases h
theorem zG4 (r : R) (d : D) (v : V) : ∃ y,(r.put d v).rs = y :: r.rs:=by cases d <;> exact ⟨_,rfl⟩
theorem zFr (r : R) (d : D) (v : V) : (r.put d v).env = match d with
 | .slot t => r.env.set t v
 | _ => r.env:=by cases d <;> rfl
end
end Go.A

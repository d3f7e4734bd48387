/- A part of the proof of AffineFinds. Conditions: none. -/
import Derived.Test.YtmkncmffaaninaaGreatXAI
set_option linter.all false
open Option renaming bind_eq_some_iff → ya,map_eq_some_iff → yb,bind_some → ye,map_some → yk
open Array renaming getElem?_eq_getElem → yc,getD_eq_getD_getElem? → yd,getElem?_eq_some_iff → yf
open Bool renaming and_eq_true → yg,not_eq_true' → yq
open List renaming getElem?_eq_getElem → yh,range → yi,mem_append_left → yj,filter_cons → ym,mem_append_right → yn,mem_cons_of_mem → yo,getElem?_set_ne → yp,mem_cons → yt,not_mem_nil → yu,mem_filter → yv,range_succ → yw,mem_map → yx
open Nat renaming le_refl → yl,lt_or_ge → yr
namespace Go.A
def zza (o : Go.Oper) : List Nat:=(o.after.toList.filter fun e => Region.binds .any e).map (·.on)
def zaO (gops : Array Go.Oper) (j : Nat) : List Nat:=match gops[j]? with
 | some o => zza o
 | none => []
inductive Reach (gops : Array Go.Oper) : Nat → Nat → Prop where
 | edge {j i : Nat} : i ∈ zaO gops j → Reach gops j i
 | more {j k i : Nat} : k ∈ zaO gops j → Reach gops k i → Reach gops j i
def lo (gops : Array Go.Oper) (xs : List Oper) (i : Nat) : Option Tmp:=match gops[i]?,xs[i]? with
 | some o,some x => zbp o.dst x.dst
 | _,_ => none
def ziE (gops : Array Go.Oper) (xs : List Oper) (j : Nat) : List (Option Tmp):=(yi j).reverse.map (lo gops xs)
def zCj (gops : Array Go.Oper) (xs : List Oper) (j i : Nat) : Option Tmp:=if (zaO gops j).contains i then lo gops xs i else none
def zfX (gops : Array Go.Oper) (xs : List Oper) (j : Nat) : List (Option Tmp):=(yi j).reverse.map (zCj gops xs j)
theorem zkq {α : Type} (f : Nat → α) {j d : Nat} (h : d < j) : ((yi j).reverse.map f)[d]? = some (f (j - 1 - d)):=by
 rw [List.getElem?_map,List.getElem?_reverse (by simpa using h),List.length_range,List.getElem?_range (by omega)];rfl
section
variable {P : Program} {κ : List Tmp} {nt : Nat} {gops : Array Go.Oper} {xs : List Oper}
theorem zm8 {Cf : zaq} : ∀ (xs : List Oper) (r r1 : R),steps Cf xs r = some r1 → ∃ rr : Nat → R,rr 0 = r ∧ rr xs.length = r1 ∧ ∀ i x,xs[i]? = some x → step Cf (rr i) x = some (rr (i + 1))
 | [],r,r1,h => by
   simp only [steps,Option.some.injEq] at h;exact ⟨fun _ => r,rfl,h,fun i x h => by simp at h⟩
 | x :: xs,r,r1,h => by
   simp only [steps,ya] at h;obtain ⟨d,b,g⟩:=h;obtain ⟨rr,c,f,e⟩:=zm8 xs d r1 g
   refine ⟨fun i => match i with
    | 0 => r
    | i + 1 => rr i,rfl,f,fun i y a => ?_⟩
   cases i with
   | zero =>
     simp at a;subst a;simp only [c];exact b
   | succ i => exact e i y (by simpa using a)
structure Mid (gops : Array Go.Oper) (xs : List Oper) (κ : List Tmp) (nt p : Nat) (envD : (Nat → Bool) → List V) (v : Nat → V) (σD : (Nat → Bool) → zd) (g0 : G) (w0 : World) (σ0 : zd) (D : Nat → Bool) (g : G) (w : World) (a : Act) : Prop where
 ext : Ext g0 w0 σ0 g w (σD D)
 rel : Rel g w (σD D)
 size : a.tmps.size = nt
 df : a.defers = []
 slot : ∀ (i : Nat) (t : Tmp),κ[i]? = some t → zh g w (σD D) ((envD D).getD i vun) (a.tmps.getD t undef)
 done : ∀ i t,i < p → D i = true → lo gops xs i = some t → zh g w (σD D) (v i) (a.tmps.getD t undef)
def zby (D : Nat → Bool) (j : Nat) : Nat → Bool:=fun i => if i = j then true else D i
def Dof (listed : Array Bool) : Nat → Bool:=fun i => listed.getD i false
structure Plan (P : Program) (κ : List Tmp) (nt : Nat) (gops : Array Go.Oper) (xs : List Oper) (p : Nat) : Prop where
 len : xs.length = gops.size
 p_le : p ≤ gops.size
 back : ∀ j o,gops[j]? = some o → ∀ i ∈ zza o,i < j
 pre : ∀ j o x,j < p → gops[j]? = some o → xs[j]? = some x → okD κ nt o.dst x.dst = true
 apart : ∀ i j t,i < p → j < p → lo gops xs i = some t → lo gops xs j = some t → i = j
 tail : ∀ j o x,p ≤ j → gops[j]? = some o → xs[j]? = some x → okD κ nt o.dst x.dst = true ∧ zgr κ (ziE gops xs j) gops o.guard x.guard = true ∧ znN P κ (ziE gops xs j) o x.dst x.op = true ∧ ∀ i,i < j → Reach gops j i
variable {p b l : Nat} {envD : (Nat → Bool) → List V} {v : Nat → V} {σD : (Nat → Bool) → zd} {g0 : G} {w0 : World} {σ0 : zd} {rr : Nat → R}
def zh9 (gops : Array Go.Oper) (D : Nat → Bool) : Prop:=∀ j,D j = true → ∀ i ∈ zaO gops j,D i = true
theorem zbg {D : Nat → Bool} (c : zh9 gops D) {j i : Nat} (h : Reach gops j i) : (∀ i ∈ zaO gops j,D i = true) → D i = true:=by
 induction h with
 | edge h => exact fun a => a _ h
 | more h _ ih => exact fun a => ih fun i b => c _ (a _ h) i b
theorem zlu {a : Array Bool} (k : a.size = gops.size) {j : Nat} : j ∈ Region.ready .any gops a ↔ (∃ o,gops[j]? = some o) ∧ Dof a j = false ∧ ∀ i ∈ zaO gops j,Dof a i = true:=by
 rw [mem_ready];constructor
 ·rintro ⟨c,o,b,h⟩
  have f : j < gops.size:=(yf.1 b).1;refine ⟨⟨o,b⟩,?_,fun i d => ?_⟩
  ·unfold Dof
   rw [yd,yc (by omega)] at c ⊢;exact c
  ·unfold zaO at d
   rw [b] at d;unfold zza at d;rw [yx] at d;obtain ⟨e,he,rfl⟩:=d;rw [yv] at he;exact h e (by simpa using he.1) he.2
 ·rintro ⟨⟨o,b⟩,c,h⟩
  have f : j < gops.size:=(yf.1 b).1;refine ⟨?_,o,b,fun e he g => h e.on ?_⟩
  ·unfold Dof at c
   rw [yd,yc (by omega)] at c ⊢;exact c
  ·unfold zaO
   rw [b];unfold zza;rw [yx];exact ⟨e,by rw [yv]; exact ⟨by simpa using he,g⟩,rfl⟩
theorem zjA {a : Array Bool} (b : a.size = gops.size) {j : Nat} (c : j < gops.size) : Dof (a.setIfInBounds j true) = zby (Dof a) j:=by
 funext i
 show (a.setIfInBounds j true).getD i false = if i = j then true else a.getD i false
 rw [yd,yd,Array.getElem?_setIfInBounds]
 by_cases h : j = i
 ·subst h
  simp [b,c]
 ·rw [if_neg h,if_neg (fun e => h e.symm)]
theorem zsl {D : Nat → Bool} (c : zh9 gops D) {j : Nat} (d : ∀ i ∈ zaO gops j,D i = true) : zh9 gops (zby D j):=fun k a i b => by
 unfold zby at a ⊢;split
 ·rfl
 ·split at a
  ·rename_i e; subst e; exact d i b
  ·exact c k a i b
theorem zkZ {a : Array Bool} (k : a.size = gops.size) (g : ∀ j o,gops[j]? = some o → ∀ i ∈ zza o,i < j) : ∀ (n : Nat) ,n < gops.size → Dof a n = false → Region.ready .any gops a ≠ []:=by
 intro n
 induction n using Nat.strongRecOn with
 | _ n ih =>
   intro d hd f
   by_cases h : ∀ i ∈ zaO gops n,Dof a i = true
   ·have : n ∈ Region.ready .any gops a:=(zlu k).2 ⟨⟨gops[n],yc d⟩,hd,h⟩
    rw [f] at this;simp at this
   ·simp only [Classical.not_forall] at h
    obtain ⟨i,b,e⟩:=h
    have c : i < n:=by
     unfold zaO at b;rw [yc d] at b;exact g n _ (yc d) i b
    exact ih i c (by omega) (by simpa using e) f
theorem zvq (pl : Plan P κ nt gops xs p) (hlen : ∀ D,(envD D).length = κ.length) (m : κ.Nodup) (n : ∀ t ∈ κ,t < nt) {D : Nat → Bool} {g : G} {w : World} {a : Act} (M : Mid gops xs κ nt p envD v σD g0 w0 σ0 D g w a) {j : Nat} (A : j ≤ p) {f : Nat → Option Tmp} (q : ∀ i t,i < j → f i = some t → D i = true ∧ lo gops xs i = some t) :
  Fr κ ((yi j).reverse.map f) nt g w ⟨(yi j).reverse.map v,envD D,σD D,b,l⟩ a:=by
 refine ⟨M.size,hlen D,fun i t r => M.slot i t r,fun d t hd _ => ?_,fun d t hd => ?_,m,n,M.df⟩
 ·have e : d < j:=by have:=zb hd; simpa using this
  rw [zkq f e] at hd;injection hd with hd;obtain ⟨z,c⟩:=q _ t (by omega) hd;simp only [List.getD_eq_getElem?_getD,zkq v e,Option.getD_some];exact M.done _ t (by omega) z c
 ·have e : d < j:=by have:=zb hd; simpa using this
  rw [zkq f e] at hd;injection hd with hd;obtain ⟨_,c⟩:=q _ t (by omega) hd;unfold lo at c;split at c
  ·rename_i o x u y
   have s:=pl.pre _ o x (by omega) u y;unfold zbp at c;split at c
   ·rename_i B k h
    injection c with c;subst c;have:=s;rw [k,h] at this;simp only [okD,yg,yq] at this;simpa using this.1
   ·cases c
  ·cases c
def left (D : Nat → Bool) (l : List Nat) : Nat:=(l.filter fun i => !D i).length
theorem zBp (D : Nat → Bool) (j : Nat) : ∀ l : List Nat,left (zby D j) l ≤ left D l
 | [] => yl _
 | x :: l => by
   have a:=zBp D j l;unfold left at a ⊢;simp only [ym]
   by_cases b : x = j
   ·subst b
    cases D x <;> simp [zby] at a ⊢ <;> omega
   ·have : zby D j x = D x:=by simp [zby,b]
    rw [this];cases D x <;> simp at a ⊢ <;> omega
theorem zwd (D : Nat → Bool) (j : Nat) (b : D j = false) : ∀ l : List Nat,j ∈ l → left (zby D j) l < left D l
 | [],h => by simp at h
 | x :: l,h => by
   have hle:=zBp D j l
   by_cases a : x = j
   ·subst a
    unfold left at hle ⊢;simp only [ym,b];simp [zby] at hle ⊢;omega
   ·have c:=zwd D j b l (by simpa [Ne.symm a] using h)
    unfold left at c ⊢;simp only [ym];have : zby D j x = D x:=(by simp [zby,a]);rw [this];cases D x <;> simp at c ⊢ <;> omega
theorem zu5 {D : Nat → Bool} {n : Nat} (h : left D (yi n) = 0) : ∀ i,i < n → D i = true:=fun i a => by
 have:=List.eq_nil_of_length_eq_zero h;rw [List.filter_eq_nil_iff] at this;simpa using this i (by simpa using a)
variable {Q : Exit → Act → World → Prop} {Cf : zaq}
theorem zvx {m : Nat} {o : Go.Oper} {x : Oper} (b : gops[m]? = some o) (a : xs[m]? = some x) : ziE gops xs (m + 1) = zbp o.dst x.dst :: ziE gops xs m:=by
 unfold ziE;rw [yw,List.reverse_append];simp [lo,b,a]
theorem zsT (S : zg3 P Cf) (pl : Plan P κ nt gops xs p) (q : ∀ i x,xs[i]? = some x → step Cf (rr i) x = some (rr (i + 1))) (e : ∀ g w a loc,Ext g0 w0 σ0 g w (rr gops.size).st → Rel g w (rr gops.size).st → Fr κ loc nt g w (rr gops.size) a → Q .normal a w) :
  ∀ (fuel m : Nat) (b : Array Bool) (g : G) (w : World) (a : Act),b.size = gops.size → p ≤ m → m ≤ gops.size → (∀ i,Dof b i = decide (i < m)) → gops.size ≤ m + fuel → Ext g0 w0 σ0 g w (rr m).st → Rel g w (rr m).st → Fr κ (ziE gops xs m) nt g w (rr m) a → wpAny P .any gops Q fuel b a w
 | fuel,m,b,g,w,a,hs,hpm,hm,hD,hf,H,R0,F => by
   have d : ∀ j,j ∈ Region.ready .any gops b → j = m ∧ j < gops.size:=fun j y => by
    obtain ⟨⟨o,n⟩,C,A⟩:=(zlu hs).1 y;have c : j < gops.size:=(yf.1 n).1;rw [hD] at C;have J : ¬ j < m:=(by simpa using C);refine ⟨?_,c⟩;have s : xs[j]? = some (xs[j]'(by rw [pl.len]; exact c)):=yh (by rw [pl.len]; exact c);have r:=(pl.tail j o _ (by omega) n s).2.2.2
    have f : zh9 gops (Dof b):=fun k B i v => by
     rw [hD] at B ⊢;have L : k < m:=(by simpa using B);unfold zaO at v;split at v
     ·rename_i I z
      have:=pl.back k I z i v;simp; omega
     ·simp at v
    rcases yr m j with h | h
    ·have:=zbg f (r m h) A
     rw [hD] at this;simp at this
    ·omega
   have fin : Region.ready .any gops b = [] → Q .normal a w:=fun t => by
    have : m = gops.size:=by
     rcases yr m gops.size with h | h
     ·exact absurd t (zkZ hs pl.back m h (by rw [hD]; simp))
     ·omega
    subst this;exact e g w a _ H R0 F
   cases fuel with
   | zero =>
     have t : Region.ready .any gops b = []:=by
      cases M : Region.ready .any gops b with
      | nil => rfl
      | cons j l =>
        have:=d j (by rw [M]; simp);omega
     exact ⟨t,fin t⟩
   | succ fuel =>
     refine ⟨fin,fun j y => ?_⟩;obtain ⟨rfl,c⟩:=d j y;have n : gops[j]? = some gops[j]:=yc c;have s : xs[j]? = some (xs[j]'(by rw [pl.len]; exact c)):=yh (by rw [pl.len]; exact c);obtain ⟨A,O,D,_⟩:=pl.tail j _ _ hpm n s
     have key:=zdX (Q:=Q) (gops:=gops) (next:=wpAny P .any gops Q fuel (b.setIfInBounds j true)) S R0 F A O D (q j _ s) (fun g' w' u H1 N _ E =>
      zsT S pl q e fuel (j + 1) _ g' w' _ (by simpa using hs) (by omega) (by omega) (fun i => by
       rw [zjA hs c]
       unfold zby
       split
       ·simp; omega
       ·rw [hD]
        rename_i K;simp only [decide_eq_decide]
        omega) (by omega) (H.trans H1) N (by rw [zvx n s]; exact E)) (fun _ h => h)
     unfold wpOp;simp only [n];split
     ·rename_i hw
      rw [if_pos hw] at key;exact .inl key
     ·rename_i hw
      rw [if_neg hw] at key;exact key
termination_by fuel => fuel
def Local (P : Program) (κ : List Tmp) (nt : Nat) (gops : Array Go.Oper) (xs : List Oper) (v : Nat → V) (envD : (Nat → Bool) → List V) (σD : (Nat → Bool) → zd) (p b l : Nat) : Prop :=
 ∀ (j : Nat) (o : Go.Oper) (x : Oper) (D : Nat → Bool) (g : G) (w : World) (a : Act) (next : Act → World → Prop) (Q : Exit → Act → World → Prop),j < p → gops[j]? = some o → xs[j]? = some x → D j = false → (∀ i ∈ zaO gops j,D i = true) → zh9 gops D → (∀ i,p ≤ i → D i = false) → Rel g w (σD D) →
   Fr κ (zfX gops xs j) nt g w ⟨(yi j).reverse.map v,envD D,σD D,b,l⟩ a →
   (∀ g' w' u,Ext g w (σD D) g' w' (σD (zby D j)) → Rel g' w' (σD (zby D j)) → Fr κ (zbp o.dst x.dst :: zfX gops xs j) nt g' w' ⟨v j :: (yi j).reverse.map v,envD (zby D j),σD (zby D j),b,l⟩ (a.put o.dst u) → next (a.put o.dst u) w') →
   if Region.wanted o (yielded gops a.tmps) then o.wp P a w next Q else next (a.put o.dst undef) w
theorem zp2 (pl : Plan P κ nt gops xs p) {i : Nat} {t : Tmp} (d : i < p) (h : lo gops xs i = some t) : t ∉ κ:=by
 unfold lo at h;split at h
 ·rename_i o x f e
  have c:=pl.pre _ o x d f e;unfold zbp at h;split at h
  ·rename_i g a b
   injection h with h;subst h;rw [a,b] at c;simp only [okD,yg,yq] at c;simpa using c.1
  ·cases h
 ·cases h
theorem zwp (S : zg3 P Cf) (pl : Plan P κ nt gops xs p) (LS : Local P κ nt gops xs v envD σD p b l) (aG : ∀ i x,xs[i]? = some x → step Cf (rr i) x = some (rr (i + 1)))
  (X : (rr p).rs = (yi p).reverse.map v) (hlen : ∀ D,(envD D).length = κ.length) (K : κ.Nodup) (N : ∀ t ∈ κ,t < nt)
  (B : ∀ D,(∀ i,D i = decide (i < p)) → σD D = (rr p).st ∧ envD D = (rr p).env)
  (E : ∀ g w a loc,Ext g0 w0 σ0 g w (rr gops.size).st → Rel g w (rr gops.size).st → Fr κ loc nt g w (rr gops.size) a → Q .normal a w) :
  ∀ (fuel : Nat) (c : Array Bool) (g : G) (w : World) (a : Act),c.size = gops.size → (∀ i,p ≤ i → Dof c i = false) → zh9 gops (Dof c) → left (Dof c) (yi gops.size) ≤ fuel → Mid gops xs κ nt p envD v σD g0 w0 σ0 (Dof c) g w a → wpAny P .any gops Q fuel c a w
 | fuel,c,g,w,a,hs,hp,hcl,hf,M => by
   by_cases k : ∀ i,i < p → Dof c i = true
   ·have aH : ∀ i,Dof c i = decide (i < p):=fun i => by
     by_cases r : i < p
     ·simp [r,k i r]
     ·simp [r,hp i (by omega)]
    obtain ⟨aF,aJ⟩:=B _ aH;have H:=M.ext;have R0:=M.rel;rw [aF] at H R0;have z:=zvq (b:=b) (l:=l) pl hlen K N M (yl p) (f:=lo gops xs) (fun i t r m => ⟨k i r,m⟩);rw [aF,aJ,← X] at z;have F : Fr κ (ziE gops xs p) nt g w (rr p) a:=⟨z.size,z.len,z.env,z.lc,z.lk,z.nd,z.bd,z.df⟩;refine zsT S pl aG E fuel p c g w a hs (yl _) pl.p_le aH ?_ H R0 F
    have A : ∀ n,n ≤ gops.size → n ≤ p + left (Dof c) (yi n):=fun n => by
     induction n with
     | zero => intro _; omega
     | succ n ih =>
       intro hn;have:=ih (by omega);unfold left at this ⊢;rw [yw,List.filter_append,List.length_append]
       by_cases aK : n < p
       ·omega
       ·have R:=hp n (by omega)
        simp [R];omega
    have:=A gops.size (yl _);omega
   ·have s : ∀ j,j ∈ Region.ready .any gops c → j < p ∧ j < gops.size ∧ Dof c j = false ∧ ∀ i ∈ zaO gops j,Dof c i = true:=fun j hj => by
     obtain ⟨⟨o,I⟩,R,U⟩:=(zlu hs).1 hj;have d : j < gops.size:=(yf.1 I).1;refine ⟨?_,d,R,U⟩;rcases yr j p with h | h
     ·exact h
     ·have O : xs[j]? = some (xs[j]'(by rw [pl.len]; exact d)):=yh (by rw [pl.len]; exact d)
      have aI:=(pl.tail j o _ h I O).2.2.2;exact absurd (fun i r => zbg hcl (aI i (by omega)) U) k
    obtain ⟨i0,aC⟩:=Classical.not_forall.1 k;obtain ⟨aC,aD⟩:=Classical.not_imp.1 aC;have Y : Region.ready .any gops c ≠ []:=zkZ hs pl.back i0 (by have:=pl.p_le; omega) (by simpa using aD)
    cases fuel with
    | zero =>
      have:=zu5 (Nat.le_zero.1 hf) i0 (by have:=pl.p_le; omega);exact absurd this aD
    | succ fuel =>
      refine ⟨fun hr => absurd hr Y,fun j hj => ?_⟩;obtain ⟨y,d,R,U⟩:=s j hj;have I : gops[j]? = some gops[j]:=yc d;have O : xs[j]? = some (xs[j]'(by rw [pl.len]; exact d)):=yh (by rw [pl.len]; exact d);have hd:=pl.pre j _ _ y I O
      have F:=zvq (b:=b) (l:=l) pl hlen K N M (Nat.le_of_lt y) (f:=zCj gops xs j) (fun i t r m => by
       unfold zCj at m;split at m
       ·rename_i hc
        exact ⟨U i (by simpa using hc),m⟩
       ·cases m)
      have key:=LS j _ _ (Dof c) g w a (wpAny P .any gops Q fuel (c.setIfInBounds j true)) Q y I O R U hcl hp M.rel F (fun g' w' u H1 R1 F1 =>
       zwp S pl LS aG X hlen K N B E fuel _ g' w' _ (by simpa using hs) (fun i r => by
        rw [zjA hs d]
        unfold zby
        split
        ·omega
        ·exact hp i r) (by rw [zjA hs d]; exact zsl hcl U) (by
        rw [zjA hs d];have:=zwd (Dof c) j R (yi gops.size) (by simpa using d)
        omega) (by
        rw [zjA hs d];refine ⟨M.ext.trans H1,R1,F1.size,F1.df,fun i t m => ?_,fun i t r aB m => ?_⟩
        ·exact F1.env i t m
        ·by_cases L : i = j
         ·subst L
          have J : zbp gops[i].dst (xs[i]'(by rw [pl.len]; exact d)).dst = some t:=by
           unfold lo at m;rw [I,O] at m;exact m
          have:=F1.lc 0 t (by simp [J]) (by simp);simpa using this
         ·have V : Dof c i = true:=by
           unfold zby at aB
           rwa [if_neg L] at aB
          have hold:=H1.zh _ _ (M.done i t r V m)
          have Z : (a.put gops[j].dst u).tmps.getD t undef = a.tmps.getD t undef:=by
           cases C : gops[j].dst with
           | none => rfl
           | some t' =>
             have aA : t' ≠ t:=fun e => by
              subst e;rw [C] at hd;unfold okD at hd;split at hd
              ·rename_i heq _; cases heq
              ·
               rename_i t2 heq aE;injection heq with heq;subst heq
               have W : lo gops xs j = some t':=by
                unfold lo;rw [I,O];simp [zbp,C,aE]
               exact L (pl.apart i j t' r y m W)
              ·
               rename_i t2 q heq aE;injection heq with heq;subst heq;have hk : t' ∈ κ:=List.mem_of_getElem? (by simpa using hd);have J:=zp2 pl r m;exact J hk
              ·cases hd
             simp only [Act.put,zij];rw [if_neg (by simp [aA])]
          rw [Z]
          exact hold))
      unfold wpOp;simp only [I];split
      ·rename_i hw
       rw [if_pos hw] at key;exact .inl key
      ·rename_i hw
       rw [if_neg hw] at key;exact key
termination_by fuel => fuel
end
def zGx : Option X → List X
 | some x => [x]
 | none => []
def opX : Op → List X
 | .mv x | .un _ x | .conv _ x | .len x | .fa _ x | .ld _ x | .box _ x | .ext x _ | .fld _ _ x | .nil x | .mks _ _ x | .mkc _ x => [x]
 | .pick c a b => [c,a,b]
 | .cpy _ x y | .bin _ x y | .eqa _ _ x y | .beq _ x y | .ia _ x y | .iaa _ _ x y | .st _ x y | .app _ x y | .lk _ _ x y | .mxn _ x y => [x,y]
 | .al _ _ | .nl _ _ | .mkm | .no _ => []
 | .bld _ parts _ => parts.map fun p => p.2.2
 | .bsl _ _ _ parts => parts.map fun p => p.2
 | .slc _ x lo hi mx => x :: (zGx lo ++ zGx hi ++ zGx mx)
 | .mkf _ first caps => first ++ caps
 | .mu m k v => [m,k,v]
 | .call _ f args => f :: args
def zbc : Op → Nat
 | .mv _ | .pick .. | .bin .. | .eqa .. | .beq .. | .un .. | .conv .. | .len _ | .fa .. | .iaa .. | .ext .. | .fld .. | .nil _ | .mkf .. | .mxn .. => 0
 | .bsl .fz _ _ _ => 0
 | .nl .fz _ => 0
 | .bld _ _ [] => 0
 | .ia .. | .slc .. => 1
 | .ld .. | .lk .. => 2
 | .call .cl _ _ => 2
 | .st .. => 3
 | .al .. | .box .. | .mks .. | .mkc .. | .mkm | .nl .. | .bsl .. | .bld .. => 4
 | _ => 5
section
variable {Cf : zaq} {r r' r1 : R} {d : D}
theorem zsx {x : Option V} {r1 : R} (h : x.map (r.put d) = some r1) : ∃ v,x = some v ∧ r1 = r.put d v:=by
 rw [yb] at h;obtain ⟨v,a,b⟩:=h;exact ⟨v,a,b.symm⟩
theorem zqz {a : Nat} {x : Option X} (h : ∀ y ∈ zGx x,r'.get y = r.get y) : bound r' a x = bound r a x:=by
 cases x with
 | none => rfl
 | some y => simp [bound,h y (by simp [zGx])]
theorem zmM : ∀ {a : List (Nat × Nat × X)} {cs : List C},(∀ y ∈ a.map (fun p => p.2.2),r'.get y = r.get y) → zoH r' a cs = zoH r a cs
 | [],_,_ => rfl
 | (off,sz,x) :: a,cs,h => by
   simp only [zoH,h x (by simp)]
   congr 1
   exact congrArg _ (funext fun c => zmM fun y b => h y (by simp at b ⊢; exact .inr b))
theorem zmf {sz : Nat} : ∀ {a : List (Nat × X)} {cs : List (List C)},(∀ y ∈ a.map (fun p => p.2),r'.get y = r.get y) → zpk r' sz a cs = zpk r sz a cs
 | [],_,_ => rfl
 | (i,x) :: a,cs,h => by
   simp only [zpk,h x (by simp)]
   congr 1
   exact zmf fun y b => h y (by simp at b ⊢; exact .inr b)
theorem zjd : ∀ {ys : List X},(∀ y ∈ ys,r'.get y = r.get y) → r'.gets ys = r.gets ys
 | [],_ => rfl
 | y :: ys,h => by
   have b:=zjd (ys:=ys) fun z a => h z (yo _ a);simp only [R.gets,h y (by simp),b]
structure Same (n : Nat) (σ σ' : zd) : Prop where
 get : ∀ id o,id < n → σ[id]? = some o → σ'[id]? = some o
structure SameRow (n : Nat) (σ σ' : zd) : Prop where
 row : ∀ id ver sz o,id < n → σ[id]? = some o → o.isRow ver sz = true → ∃ o',σ'[id]? = some o' ∧ o'.isRow ver sz = true
theorem Same.rows {n : Nat} {σ σ' : zd} (h : Same n σ σ') : SameRow n σ σ':=⟨fun id c sz o a b d => ⟨o,h.get id o a b,d⟩⟩
theorem zCa {n : Nat} {σ σ' : zd} (h : Same n σ σ') {v v' : V} (e : v.lt n = true) (a : zGV σ v = some v') : zGV σ' v = some v':=by
 unfold zGV at a ⊢;split at a
 ·rename_i id f lo m
  have c : id < n:=by simpa [V.lt,C.lt] using e
  rw [yb] at a ⊢;obtain ⟨xs,b,g⟩:=a;rw [ya] at b;obtain ⟨o,b,d⟩:=b;exact ⟨xs,by rw [ya]; exact ⟨o,h.get id o c b,d⟩,g⟩
 all_goals exact a
theorem zsw {n : Nat} {σ σ' : zd} (h : Same n σ σ') : ∀ {vs a : List V},V.lts n vs = true → zrm σ vs = some a → zrm σ' vs = some a
 | [],_,_,hv => hv
 | v :: vs,a,hl,hv => by
   simp only [V.lts,yg] at hl;simp only [zrm] at hv ⊢;obtain ⟨y,z,b,c,rfl⟩:=zgo hv;rw [zCa h hl.1 b,zsw h hl.2 c];rfl
theorem znX {n : Nat} : ∀ {a b : List V},V.lts n (a ++ b) = (V.lts n a && V.lts n b)
 | [],b => by simp [V.lts]
 | v :: a,b => by simp [V.lts,znX (a:=a),Bool.and_assoc]
theorem zv5 {n : Nat} : ∀ {cs : List C},V.lts n (cs.map V.one) = C.lts n cs
 | [] => rfl
 | c :: cs => by simp [V.lts,V.lt,C.lts,zv5 (cs:=cs)]
theorem zxH {n : Nat} : ∀ {ys : List X},(∀ y ∈ ys,(r.get y).lt n = true) → V.lts n (r.gets ys) = true
 | [],_ => rfl
 | y :: ys,h => by
   have b:=zxH (ys:=ys) fun z a => h z (yo _ a);simp [R.gets,V.lts,h y (by simp),b]
theorem zol {op : Op} {n : Nat} (B : zbc op ≤ 2) (l : ∀ x ∈ opX op,r'.get x = r.get x) (G : ∀ x ∈ opX op,(r.get x).lt n = true) (Q : zbc op = 1 → SameRow n r.st r'.st) (O : zbc op = 2 → Same n r.st r'.st) (h : zbx Cf r d op = some r1) :
  ∃ v,r1 = r.put d v ∧ zbx Cf r' d op = some (r'.put d v):=by
 have one : ∀ {x : Option V},x.map (r.put d) = some r1 → ∀ {y : Option V},(∀ v,x = some v → y = some v) → ∃ v,r1 = r.put d v ∧ y.map (r'.put d) = some (r'.put d v):=fun {x} hx {y} A => by
  obtain ⟨v,e1,e2⟩:=zsx hx;exact ⟨v,e2,by rw [A v e1]; rfl⟩
 cases op <;> simp only [zbx] at h ⊢ <;> simp only [opX,yt,yu,or_false,forall_eq_or_imp,forall_eq] at l G
 case mv x => injection h with h; exact ⟨_,h.symm,by rw [l]⟩
 case pick c x y => rw [l.1,l.2.1,l.2.2]; exact one h fun _ e => e
 case bin o x y => rw [l.1,l.2]; exact one h fun _ e => e
 case beq neg x y => rw [l.1,l.2]; exact one h fun _ e => e
 case eqa n neg x y => rw [l.1,l.2]; exact one h fun _ e => e
 case un o x => rw [l]; exact one h fun _ e => e
 case conv k x => rw [l]; exact one h fun _ e => e
 case len x => rw [l]; exact one h fun _ e => e
 case fa off x => rw [l]; exact one h fun _ e => e
 case iaa n' sz x i => rw [l.1,l.2]; exact one h fun _ e => e
 case ext x i => rw [l]; exact one h fun _ e => e
 case fld off sz x => rw [l]; exact one h fun _ e => e
 case nil x => rw [l]; exact one h fun _ e => e
 case mxn b x y => rw [l.1,l.2]; exact one h fun _ e => e
 case mkf f first E =>
  injection h with h;rw [zjd (r:=r) (r':=r') fun y A => l y (yj _ A),zjd (r:=r) (r':=r') fun y A => l y (yn _ A)];exact ⟨_,h.symm,rfl⟩
 case ia sz x i =>
  rw [l.1,l.2];refine one h fun v e => ?_;have z:=Q rfl;unfold aia at e ⊢;split at e
  ·rename_i id u lo m X q heq _
   split at e
   ·rename_i H
    rw [if_pos H];rw [ya] at e ⊢;obtain ⟨o,e1,e2⟩:=e;unfold zt4 at e2;split at e2
    ·rename_i S
     have t : id < n:=by
      have:=G.1;rw [heq] at this;simpa [V.lt,C.lt] using this
     obtain ⟨P,s,p⟩:=z.row id u sz o t e1 S;exact ⟨P,s,by unfold zt4; rw [if_pos p]; exact e2⟩
    ·cases e2
   ·cases e
  all_goals exact e
 case slc sz x lo hi mx =>
  have z:=Q rfl;have e1:=l.1
  have hm : zED r' hi mx = zED r hi mx:=by
   cases mx with
   | none => rfl
   | some m => cases hi with
     | none => rfl
     | some hh =>
       have s:=l.2 m (by simp [zGx]);have p:=l.2 hh (by simp [zGx]);simp only [zED,s,p]
  by_cases B : zED r hi mx = true
  case neg => rw [if_neg B] at h; cases h
  rw [if_pos B] at h;rw [if_pos (hm.trans B)];refine one h fun v e => ?_;have b1 : ∀ d,bound r' d lo = bound r d lo:=fun d => zqz fun y A => l.2 y (yj _ (yj _ A));have b2 : ∀ d,bound r' d hi = bound r d hi:=fun d => zqz fun y A => l.2 y (yj _ (yn _ A));rw [e1];unfold zHu at e ⊢;split at e
  ·rw [b1,b2]; exact e
  ·rw [b1,b2]; exact e
  ·rename_i id u U m heq
   rw [b1,b2];split at e
   ·cases e
   ·rename_i M
    rw [if_neg M];obtain ⟨a,b,s,p,w⟩:=zps e;rw [s,p]
    show zAF r'.st sz id u U m a b = some v
    unfold zAF at w ⊢;split at w
    ·rename_i H
     have t : id < n:=by
      have:=G.1;rw [heq] at this;simpa [V.lt,C.lt] using this
     have I : (r'.st[id]?).any (Ob.isRow u sz) = true:=by
      have:=H.2.2
      cases N : r.st[id]? with
      | none => simp [N] at this
      | some o =>
        simp [N] at this;obtain ⟨P,D,W⟩:=z.row id u sz o t N this;simp [D,W]
     rw [if_pos ⟨H.1,H.2.1,I⟩];exact w
    ·cases w
  ·cases e
 case ld sz x =>
  have J:=O rfl;rw [l];refine one h fun v e => ?_
  have key : ∀ {id u i : Nat} {el : List C},id < n → r.st.elem id u i = some el → r'.st.elem id u i = some el:=fun {id u i el} t he => by
   unfold zd.elem at he ⊢;rw [ya] at he ⊢;obtain ⟨o,s,p⟩:=he;exact ⟨o,J.get id o t s,p⟩
  unfold ald at e ⊢;split at e
  ·rename_i id u i off heq
   have t : id < n:=by
    have:=G;rw [heq] at this;simpa [V.lt,C.lt] using this
   rw [yb] at e ⊢;obtain ⟨c,s,p⟩:=e;unfold zd.cell at s ⊢;rw [ya] at s;obtain ⟨el,w,D⟩:=s;exact ⟨c,by rw [ya]; exact ⟨el,key t w,D⟩,p⟩
  ·exact e
  ·rename_i m id u i off heq
   have t : id < n:=by
    have:=G;rw [heq] at this;simpa [V.lt,C.lt] using this
   rw [yb] at e ⊢;obtain ⟨c,s,p⟩:=e;rw [ya] at s;obtain ⟨el,w,D⟩:=s;exact ⟨c,by rw [ya]; exact ⟨el,key t w,D⟩,p⟩
  ·exact e
  ·cases e
 case lk zero ok m k =>
  have J:=O rfl;rw [l.1,l.2];refine one h fun v e => ?_;unfold alk at e ⊢;split at e
  ·rename_i id X heq _
   have t : id < n:=by
    have:=G.1;rw [heq] at this;simpa [V.lt,C.lt] using this
   rw [yb] at e ⊢;obtain ⟨es,s,p⟩:=e;rw [ya] at s;obtain ⟨o,w,D⟩:=s;exact ⟨es,by rw [ya]; exact ⟨o,J.get id o t w,D⟩,p⟩
  ·exact e
  ·cases e
 case call m f args =>
  cases m
  case cl =>
   have J:=O rfl;have e1:=l.1;have e2:=zjd (r:=r) (r':=r') (ys:=args) l.2;rw [e1,e2];unfold zpl at h ⊢;split at h
   ·rename_i g first E heq
    simp only at h ⊢;rw [ya] at h;obtain ⟨x,s,p⟩:=h;rw [ya] at s;obtain ⟨aS,w,D⟩:=s
    have L : V.lts n (first.map V.one ++ (r.gets args ++ E.map V.one)) = true:=by
     have K:=G.1;rw [heq] at K;simp only [V.lt,C.lt,yg] at K;rw [znX,znX,zv5,zv5,zxH G.2,K.1,K.2];rfl
    rw [zsw J L w];simp only [ye,D];unfold zxe at p ⊢;split at p
    ·rename_i H
     injection p with p;exact ⟨_,p.symm,by rw [if_pos H]⟩
    ·cases p
   ·cases h
  all_goals (simp only [zbc] at B; omega)
 case bsl b sz zero parts =>
  cases b <;> simp only [zbc] at B
  case fz =>
   rw [zmf (r:=r) (r':=r') l];rw [ya] at h;obtain ⟨es,s,p⟩:=h;simp only [zxC,yb] at p;obtain ⟨xs,p,w⟩:=p;exact ⟨vsl xs,w.symm,by rw [s]; simp only [ye,zxC,p,yk,zGI]⟩
  all_goals omega
 case nl b sz =>
  cases b <;> simp only [zbc] at B
  case fz =>
   simp only [anl,Option.some.injEq] at h ⊢;exact ⟨_,h.symm,rfl⟩
  all_goals omega
 case bld zero parts fresh =>
  cases fresh with
  | nil =>
    rw [zmM (r:=r) (r':=r') l];rw [yb] at h;obtain ⟨cs,s,p⟩:=h;simp only [zgP] at s ⊢;refine ⟨.agg cs,?_,by rw [s]; simp [zG6,tokens,R.allocs]⟩;rw [← p];simp [zG6,tokens,R.allocs]
  | cons j js => simp only [zbc] at B; omega
 all_goals (simp only [zbc] at B; omega)
end
mutual
theorem exC : ∀ c : C,∃ n,∀ m,n ≤ m → c.lt m = true
 | .f _ => ⟨0,fun _ _ => by simp [C.lt]⟩
 | .ap t _ _ => ⟨t + 1,fun _ h => by simp [C.lt]; omega⟩
 | .ptr id _ _ _ => ⟨id + 1,fun _ h => by simp [C.lt]; omega⟩
 | .fp _ _ => ⟨0,fun _ _ => by simp [C.lt]⟩
 | .own id _ _ _ => ⟨id + 1,fun _ h => by simp [C.lt]; omega⟩
 | .map id => ⟨id + 1,fun _ h => by simp [C.lt]; omega⟩
 | .fn _ a b => by
   obtain ⟨n,d⟩:=zIr a;obtain ⟨m,e⟩:=zIr b;exact ⟨max n m,fun k g => by simp only [C.lt,yg]; exact ⟨d k (by omega),e k (by omega)⟩⟩
 | .un => ⟨0,fun _ _ => by simp [C.lt]⟩
theorem zIr : ∀ cs : List C,∃ n,∀ m,n ≤ m → C.lts m cs = true
 | [] => ⟨0,fun _ _ => rfl⟩
 | c :: cs => by
   obtain ⟨n,a⟩:=exC c;obtain ⟨m,b⟩:=zIr cs;exact ⟨max n m,fun k d => by simp only [C.lts,yg]; exact ⟨a k (by omega),b k (by omega)⟩⟩
end
mutual
theorem exV : ∀ c : V,∃ n,∀ m,n ≤ m → c.lt m = true
 | .one c => by
   obtain ⟨n,h⟩:=exC c;exact ⟨n,fun m hm => by simp only [V.lt]; exact h m hm⟩
 | .agg cs => by
   obtain ⟨n,h⟩:=zIr cs;exact ⟨n,fun m hm => by simp only [V.lt]; exact h m hm⟩
 | .tup vs => by
   obtain ⟨n,h⟩:=zJw vs;exact ⟨n,fun m hm => by simp only [V.lt]; exact h m hm⟩
theorem zJw : ∀ cs : List V,∃ n,∀ m,n ≤ m → V.lts m cs = true
 | [] => ⟨0,fun _ _ => rfl⟩
 | c :: cs => by
   obtain ⟨n,a⟩:=exV c;obtain ⟨m,b⟩:=zJw cs;exact ⟨max n m,fun k d => by simp only [V.lts,yg]; exact ⟨a k (by omega),b k (by omega)⟩⟩
end
theorem exX (f : X → V) : ∀ xs : List X,∃ n,∀ m,n ≤ m → ∀ x ∈ xs,(f x).lt m = true
 | [] => ⟨0,fun _ _ x h => by simp at h⟩
 | x :: xs => by
   obtain ⟨n,b⟩:=exV (f x);obtain ⟨m,c⟩:=exX f xs;refine ⟨max n m,fun k d y a => ?_⟩;rcases yt.1 a with rfl | a
   ·exact b k (by omega)
   ·exact c k (by omega) y a
section
variable {Cf : zaq} {r r' r1 : R} {d : D}
def R.at (r : R) (σ : zd) : R:={ r with st:=σ }
def zEo (c : Nat) (σ σ1 : zd) : Prop:=(c ≤ 2 → σ1 = σ) ∧ (c = 3 → σ1.length = σ.length ∧ ∀ n,SameRow n σ σ1 ∧ SameRow n σ1 σ) ∧ (c = 4 → ∃ os,σ1 = σ ++ os)
theorem zxV {op : Op} (t : ∀ x ∈ opX op,r'.get x = r.get x) (a : r'.st = r.st) (h : zbx Cf r d op = some r1) :
  ∃ v σ1,r1 = (r.at σ1).put d v ∧ zbx Cf r' d op = some ((r'.at σ1).put d v) ∧ zEo (zbc op) r.st σ1:=by
 by_cases D : zbc op ≤ 2
 ·
  obtain ⟨n,C⟩:=exX r.get (opX op);obtain ⟨v,l,c⟩:=zol (n:=n) D t (C n (yl _)) (fun _ => by rw [a]; exact ⟨fun id J sz o _ u y => ⟨o,u,y⟩⟩) (fun _ => by rw [a]; exact ⟨fun id o _ u => u⟩) h;refine ⟨v,r.st,l,?_,fun _ => rfl,fun h => by omega,fun h => by omega⟩;rw [c,← a];rfl
 ·have e4 : ∀ {os : List Ob},zbc op = 4 → zEo (zbc op) r.st (r.st ++ os):=fun {os} q => ⟨fun h => by omega,fun h => by omega,fun _ => ⟨os,rfl⟩⟩
  have e5 : ∀ {σ1 : zd},zbc op = 5 → zEo (zbc op) r.st σ1:=fun {σ1} q => ⟨fun h => by omega,fun h => by omega,fun h => by omega⟩
  have anl' : ∀ {b : B} {sz : Nat},b ≠ .fz → anl r d sz b = some r1 → ∃ v os,r1 = (r.at (r.st ++ os)).put d v ∧ anl r' d sz b = some ((r'.at (r.st ++ os)).put d v):=fun {b sz} hb C => by
   cases b with
   | fz => exact absurd rfl hb
   | tk =>
     simp only [anl,Option.some.injEq] at C ⊢;exact ⟨_,_,C.symm,by simp only [R.alloc,R.at,a]⟩
   | rw =>
     simp only [anl,Option.some.injEq] at C ⊢;exact ⟨_,_,C.symm,by simp only [R.alloc,R.at,a]⟩
  cases op <;> simp only [zbx] at h ⊢ <;> simp only [opX,yt,yu,or_false,forall_eq_or_imp,forall_eq] at t
  case st sz x v =>
   rw [t.1,t.2];rw [yb] at h;obtain ⟨K,h,rfl⟩:=h;unfold ast at h ⊢;split at h
   ·rename_i id J i off heq
    split at h
    ·rename_i N
     rw [if_pos N];unfold R.write at h ⊢;split at h
     ·rename_i H
      rw [if_pos H,a];rw [yb] at h;obtain ⟨L,l,rfl⟩:=h;rw [l];refine ⟨vun,r.st.set id L,rfl,by simp only [yk,R.setOb,R.at,a],fun h => by simp [zbc] at h,fun _ => ⟨by simp,fun n => ⟨⟨fun z w G o _ u y => ?_⟩,⟨fun z w G o _ u y => ?_⟩⟩⟩,fun h => by simp [zbc] at h⟩
      ·rw [ya] at l
       obtain ⟨o0,c,p⟩:=l
       by_cases e : z = id
       ·subst e
        rw [c] at u;injection u with u;subst u;unfold Ob.write at p;split at p
        ·split at p
         ·rw [yb] at p
          obtain ⟨M,_,rfl⟩:=p;exact ⟨_,zE c,by simpa [Ob.isRow,upd] using y⟩
         ·cases p
        ·cases p
       ·exact ⟨o,by rw [yp (Ne.symm e)]; exact u,y⟩
      ·rw [ya] at l
       obtain ⟨o0,c,p⟩:=l
       by_cases e : z = id
       ·subst e
        rw [zE c] at u;injection u with u;subst u;refine ⟨o0,c,?_⟩;unfold Ob.write at p;split at p
        ·split at p
         ·rw [yb] at p
          obtain ⟨M,_,rfl⟩:=p;simpa [Ob.isRow,upd] using y
         ·cases p
        ·cases p
       ·exact ⟨o,by rw [yp (Ne.symm e)] at u; exact u,y⟩
     ·cases h
    ·cases h
   ·cases h
  case al zero fresh =>
   injection h with h;exact ⟨_,_,h.symm,by simp only [aal,R.allocs,R.at,a],e4 rfl⟩
  case box sz x =>
   rw [t];split at h
   ·rename_i q
    injection h with h;exact ⟨_,_,h.symm,by rw [if_pos q]; simp only [R.alloc,R.at,a],e4 rfl⟩
   ·cases h
  case mks zero fresh n =>
   rw [t];unfold zG5 at h ⊢;split at h
   ·split at h
    ·rename_i q
     injection h with h;exact ⟨_,_,h.symm,by rw [if_pos q]; simp only [R.alloc,R.at,a],e4 rfl⟩
    ·cases h
   ·split at h
    ·rename_i q
     injection h with h;exact ⟨_,_,h.symm,by rw [if_pos q]; simp only [R.allocs,R.at,a],e4 rfl⟩
    ·cases h
   ·cases h
  case mkc sz n =>
   rw [t];unfold zHe at h ⊢;split at h
   ·split at h
    ·rename_i q
     injection h with h;exact ⟨_,_,h.symm,by rw [if_pos q]; simp only [R.alloc,R.at,a],e4 rfl⟩
    ·cases h
   ·cases h
  case mkm =>
   injection h with h;exact ⟨_,_,h.symm,by simp only [R.alloc,R.at,a],e4 rfl⟩
  case nl b sz =>
   cases b
   case fz => simp [zbc] at D
   case tk => obtain ⟨v,os,l,c⟩:=anl' (by simp) h; exact ⟨v,_,l,c,e4 rfl⟩
   case rw => obtain ⟨v,os,l,c⟩:=anl' (by simp) h; exact ⟨v,_,l,c,e4 rfl⟩
  case bsl b sz zero parts =>
   rw [zmf (r:=r) (r':=r') t];rw [ya] at h;obtain ⟨es,l,c⟩:=h;rw [l];cases b
   case fz => simp [zbc] at D
   case tk =>
    simp only [zxC,yb] at c;obtain ⟨xs,c,rfl⟩:=c;exact ⟨_,_,rfl,by simp only [ye,zxC,c,yk,zAN,R.alloc,R.at,a],e4 rfl⟩
   case rw =>
    simp only [zxC,Option.some.injEq] at c;subst c;exact ⟨_,_,rfl,by simp only [ye,zxC,R.alloc,R.at,a],e4 rfl⟩
  case bld zero parts fresh =>
   rw [zmM (r:=r) (r':=r') t,a];rw [yb] at h;obtain ⟨cs,l,rfl⟩:=h;rw [l];refine ⟨.agg cs,r.st ++ tokens fresh,rfl,by simp only [yk,zG6,R.allocs,R.at,a],e4 ?_⟩
   cases fresh with
   | nil => simp [zbc] at D
   | cons j js => rfl
  case cpy sz s x =>
   rw [t.1,t.2,a];rw [ya] at h;obtain ⟨ys,l,c⟩:=h;rw [l];simp only [ye];split at c
   ·rename_i A
    rw [if_pos A];unfold zHd at c ⊢;split at c
    ·split at c
     ·cases c
     ·rename_i H
      simp only [if_neg H];rw [ya] at c;obtain ⟨o,p,g⟩:=c;rw [a,p];simp only [ye]
      cases o with
      | tok _ _ => simp [zkf] at g
      | mp _ => simp [zkf] at g
      | cells w G es =>
        simp only [zkf] at g ⊢;split at g
        ·rename_i q
         injection g with g;exact ⟨_,_,g.symm,by rw [if_pos q]; simp only [R.setOb,R.at,a],e5 rfl⟩
        ·cases g
    ·cases c
   ·cases c
  case app sz s x =>
   rw [t.1,t.2,a];rw [ya] at h;obtain ⟨ys,l,c⟩:=h;rw [l];simp only [ye];split at c
   ·rename_i A
    rw [if_pos A];unfold zFS at c ⊢;split at c
    ·rw [ya] at c
     obtain ⟨o,p,g⟩:=c;rw [a,p];simp only [ye];unfold zoY at g ⊢;split at g
     ·rename_i q
      injection g with g;exact ⟨_,_,g.symm,by rw [if_pos q]; simp only [R.setOb,R.at,a],e5 rfl⟩
     ·cases g
    ·rw [ya] at c
     obtain ⟨o,p,g⟩:=c;rw [a,p];simp only [ye];unfold zvH at g ⊢;split at g
     ·rename_i q
      injection g with g;exact ⟨_,_,g.symm,by rw [if_pos q]; simp only [R.setOb,R.at,a],e5 rfl⟩
     ·rename_i I
      split at g
      ·rename_i q
       injection g with g;exact ⟨_,_,g.symm,by rw [if_neg I,if_pos q]; simp only [R.at,← a],e5 rfl⟩
      ·cases g
    ·split at c
     ·rename_i q
      injection c with c;exact ⟨_,_,c.symm,by rw [if_pos q]; simp only [R.alloc,R.at,a],e5 rfl⟩
     ·cases c
    ·cases c
   ·cases c
  case mu m k v =>
   rw [t.1,t.2.1,t.2.2];rw [yb] at h;obtain ⟨K,h,rfl⟩:=h;unfold amu at h ⊢;split at h
   ·rw [yb] at h
    obtain ⟨es,l,rfl⟩:=h;rw [a,l];exact ⟨vun,_,rfl,by simp only [yk,zH3,R.setOb,R.at,a],e5 rfl⟩
   ·cases h
  case call m f args =>
   have e1:=t.1;have e2:=zjd (r:=r) (r':=r') (ys:=args) t.2;rw [e1,e2];unfold zpl at h ⊢;split at h
   ·cases m
    case cl => simp [zbc] at D
    case ck =>
     simp only at h ⊢;split at h
     ·cases h
     ·rename_i E
      rw [if_neg E,a];rw [yb] at h;obtain ⟨x,l,rfl⟩:=h;rw [l];exact ⟨_,_,rfl,by simp only [yk,zx9,R.at,a],e5 rfl⟩
    case op =>
     simp only at h ⊢;rw [a];rw [yb] at h;obtain ⟨x,l,rfl⟩:=h;rw [l];exact ⟨_,_,rfl,by simp only [yk,zxx,R.at],e5 rfl⟩
   ·cases h
  all_goals first
   | (simp [zbc] at D; done)
   | (cases h; done)
def zfa (x : Oper) : List X:=opX x.op ++ (match x.guard with
 | some (y,_) => [y]
 | none => [])
theorem zgA {x : Oper} {n : Nat} (i : zbc x.op ≤ 2) (c : ∀ y ∈ zfa x,r'.get y = r.get y) (f : ∀ y ∈ zfa x,(r.get y).lt n = true) (j : zbc x.op = 1 → SameRow n r.st r'.st) (k : zbc x.op = 2 → Same n r.st r'.st) (h : step Cf r x = some r1) :
  ∃ v,r1 = r.put x.dst v ∧ step Cf r' x = some (r'.put x.dst v):=by
 obtain ⟨d,op,g⟩:=x
 cases g with
 | none => exact zol i (fun y a => c y (by simp [zfa,a])) (fun y a => f y (by simp [zfa,a])) j k h
 | some p =>
   obtain ⟨y,b⟩:=p;simp only [step] at h ⊢;rw [c y (by simp [zfa])];unfold zpa at h ⊢;split at h
   ·split at h
    ·rename_i e
     rw [if_pos e];exact zol i (fun y a => c y (by simp [zfa,a])) (fun y a => f y (by simp [zfa,a])) j k h
    ·rename_i e
     rw [if_neg e];injection h with h;exact ⟨.tup [],h.symm,rfl⟩
   ·injection h with h
    exact ⟨.tup [],h.symm,rfl⟩
   ·cases h
def zAY (c : Nat) (σ σ1 : zd) : Prop:=σ1 = σ ∨ zEo c σ σ1
theorem ztD {x : Oper} (c : ∀ y ∈ zfa x,r'.get y = r.get y) (a : r'.st = r.st) (h : step Cf r x = some r1) :
  ∃ v σ1,r1 = (r.at σ1).put x.dst v ∧ step Cf r' x = some ((r'.at σ1).put x.dst v) ∧ zAY (zbc x.op) r.st σ1:=by
 obtain ⟨d,op,g⟩:=x
 cases g with
 | none =>
   obtain ⟨v,σ1,f,k,j⟩:=zxV (fun y i => c y (by simp [zfa,i])) a h;exact ⟨v,σ1,f,k,.inr j⟩
 | some p =>
   obtain ⟨y,b⟩:=p;simp only [step] at h ⊢;rw [c y (by simp [zfa])];unfold zpa at h ⊢;split at h
   ·split at h
    ·rename_i e
     rw [if_pos e];obtain ⟨v,σ1,f,k,j⟩:=zxV (fun y i => c y (by simp [zfa,i])) a h;exact ⟨v,σ1,f,k,.inr j⟩
    ·rename_i e
     rw [if_neg e];injection h with h;exact ⟨.tup [],r.st,h.symm,by rw [← a]; rfl,.inl rfl⟩
   ·injection h with h
    exact ⟨.tup [],r.st,h.symm,by rw [← a]; rfl,.inl rfl⟩
   ·cases h
theorem zHl (r : R) (d : D) (v : V) : ∃ y,(r.put d v).rs = y :: r.rs:=by cases d <;> exact ⟨_,rfl⟩
theorem zGn (r : R) (d : D) (v : V) : (r.put d v).env = match d with
 | .slot t => r.env.set t v
 | _ => r.env:=by cases d <;> rfl
end
end Go.A

/- A part of the proof of SchedDepth. Conditions: none. -/
import Derived.Test.YtmkncmffaaninaaGreatDAJ
set_option linter.unusedVariables false
set_option linter.unusedSimpArgs false
set_option linter.unusedSectionVars false
open Option renaming bind_eq_some_iff → ya,map_eq_some_iff → yc,bind_some → yr
open Array renaming getElem?_eq_getElem → yb,getD_eq_getD_getElem? → yd,getElem?_eq_some_iff → ye
open List renaming getElem?_eq_getElem → yf,mem_append_left → yg,range → yh,mem_append_right → yi,filter_cons → yk,mem_cons_of_mem → yl,mem_filter → yp,range_succ → yq,mem_map → yt
open Bool renaming and_eq_true → yj,not_eq_true' → yn
open Nat renaming le_refl → ym,lt_or_ge → yo
namespace Go.A
def zwU (o : Go.Oper) : List Nat:=(o.after.toList.filter fun e => Region.binds .any e).map (·.on)
def zas (gops : Array Go.Oper) (j : Nat) : List Nat:=match gops[j]? with
 | some o => zwU o
 | none => []
inductive Reach (gops : Array Go.Oper) : Nat → Nat → Prop where
 | edge {j i : Nat} : i ∈ zas gops j → Reach gops j i
 | more {j k i : Nat} : k ∈ zas gops j → Reach gops k i → Reach gops j i
def lo (gops : Array Go.Oper) (xs : List Oper) (i : Nat) : Option Tmp:=match gops[i]?,xs[i]? with
 | some o,some x => zaO o.dst x.dst
 | _,_ => none
def zhJ (gops : Array Go.Oper) (xs : List Oper) (j : Nat) : List (Option Tmp):=(yh j).reverse.map (lo gops xs)
def zzP (gops : Array Go.Oper) (xs : List Oper) (j i : Nat) : Option Tmp:=if (zas gops j).contains i then lo gops xs i else none
def zfi (gops : Array Go.Oper) (xs : List Oper) (j : Nat) : List (Option Tmp):=(yh j).reverse.map (zzP gops xs j)
theorem zju {α : Type} (f : Nat → α) {j d : Nat} (h : d < j) : ((yh j).reverse.map f)[d]? = some (f (j - 1 - d)):=by
 rw [List.getElem?_map,List.getElem?_reverse (by simpa using h),List.length_range,List.getElem?_range (by omega)]
 rfl
section
variable {P : Program} {κ : List Tmp} {nt : Nat} {gops : Array Go.Oper} {xs : List Oper}
theorem zly {Cf : zad} : ∀ (xs : List Oper) (r r1 : R),steps Cf xs r = some r1 → ∃ rr : Nat → R,rr 0 = r ∧ rr xs.length = r1 ∧ ∀ i x,xs[i]? = some x → step Cf (rr i) x = some (rr (i + 1))
 | [],r,r1,h => by
   simp only [steps,Option.some.injEq] at h
   exact ⟨fun _ => r,rfl,h,fun i x h => by simp at h⟩
 | x :: xs,r,r1,h => by
   simp only [steps,ya] at h
   obtain ⟨r2,h1,h2⟩:=h
   obtain ⟨rr,k1,k2,k3⟩:=zly xs r2 r1 h2
   refine ⟨fun i => match i with
    | 0 => r
    | i + 1 => rr i,rfl,k2,fun i y hy => ?_⟩
   cases i with
   | zero =>
     simp at hy
     subst hy
     simp only [k1]
     exact h1
   | succ i => exact k3 i y (by simpa using hy)
structure Mid (gops : Array Go.Oper) (xs : List Oper) (κ : List Tmp) (nt p : Nat) (envD : (Nat → Bool) → List V) (v : Nat → V) (σD : (Nat → Bool) → zd) (g0 : G) (w0 : World) (σ0 : zd) (D : Nat → Bool) (g : G) (w : World) (a : Act) : Prop where
 ext : Ext g0 w0 σ0 g w (σD D)
 rel : Rel g w (σD D)
 size : a.tmps.size = nt
 df : a.defers = []
 slot : ∀ (i : Nat) (t : Tmp),κ[i]? = some t → zf g w (σD D) ((envD D).getD i vun) (a.tmps.getD t undef)
 done : ∀ i t,i < p → D i = true → lo gops xs i = some t → zf g w (σD D) (v i) (a.tmps.getD t undef)
def zba (D : Nat → Bool) (j : Nat) : Nat → Bool:=fun i => if i = j then true else D i
def Dof (listed : Array Bool) : Nat → Bool:=fun i => listed.getD i false
structure Plan (P : Program) (κ : List Tmp) (nt : Nat) (gops : Array Go.Oper) (xs : List Oper) (p : Nat) : Prop where
 len : xs.length = gops.size
 p_le : p ≤ gops.size
 back : ∀ j o,gops[j]? = some o → ∀ i ∈ zwU o,i < j
 pre : ∀ j o x,j < p → gops[j]? = some o → xs[j]? = some x → okD κ nt o.dst x.dst = true
 apart : ∀ i j t,i < p → j < p → lo gops xs i = some t → lo gops xs j = some t → i = j
 tail : ∀ j o x,p ≤ j → gops[j]? = some o → xs[j]? = some x → okD κ nt o.dst x.dst = true ∧ zfM κ (zhJ gops xs j) gops o.guard x.guard = true ∧ zmf P κ (zhJ gops xs j) o x.dst x.op = true ∧ ∀ i,i < j → Reach gops j i
variable {p b l : Nat} {envD : (Nat → Bool) → List V} {v : Nat → V} {σD : (Nat → Bool) → zd} {g0 : G} {w0 : World} {σ0 : zd} {rr : Nat → R}
def zhp (gops : Array Go.Oper) (D : Nat → Bool) : Prop:=∀ j,D j = true → ∀ i ∈ zas gops j,D i = true
theorem za1 {D : Nat → Bool} (hD : zhp gops D) {j i : Nat} (h : Reach gops j i) : (∀ i ∈ zas gops j,D i = true) → D i = true:=by
 induction h with
 | edge h => exact fun hj => hj _ h
 | more h _ ih => exact fun hj => ih fun i hi => hD _ (hj _ h) i hi
theorem zkk {listed : Array Bool} (hs : listed.size = gops.size) {j : Nat} : j ∈ Region.ready .any gops listed ↔ (∃ o,gops[j]? = some o) ∧ Dof listed j = false ∧ ∀ i ∈ zas gops j,Dof listed i = true:=by
 rw [mem_ready]
 constructor
 ·rintro ⟨h0,o,ho,h⟩
  have hlt : j < gops.size:=(ye.1 ho).1
  refine ⟨⟨o,ho⟩,?_,fun i hi => ?_⟩
  ·unfold Dof
   rw [yd,yb (by omega)] at h0 ⊢
   exact h0
  ·unfold zas at hi
   rw [ho] at hi
   unfold zwU at hi
   rw [yt] at hi
   obtain ⟨e,he,rfl⟩:=hi
   rw [yp] at he
   exact h e (by simpa using he.1) he.2
 ·rintro ⟨⟨o,ho⟩,h0,h⟩
  have hlt : j < gops.size:=(ye.1 ho).1
  refine ⟨?_,o,ho,fun e he hb => h e.on ?_⟩
  ·unfold Dof at h0
   rw [yd,yb (by omega)] at h0 ⊢
   exact h0
  ·unfold zas
   rw [ho]
   unfold zwU
   rw [yt]
   exact ⟨e,by rw [yp]; exact ⟨by simpa using he,hb⟩,rfl⟩
theorem zij {listed : Array Bool} (hs : listed.size = gops.size) {j : Nat} (hj : j < gops.size) : Dof (listed.setIfInBounds j true) = zba (Dof listed) j:=by
 funext i
 show (listed.setIfInBounds j true).getD i false = if i = j then true else listed.getD i false
 rw [yd,yd,Array.getElem?_setIfInBounds]
 by_cases h : j = i
 ·subst h
  simp [hs,hj]
 ·rw [if_neg h,if_neg (fun e => h e.symm)]
theorem zqt {D : Nat → Bool} (hD : zhp gops D) {j : Nat} (hj : ∀ i ∈ zas gops j,D i = true) : zhp gops (zba D j):=fun k hk i hi => by
 unfold zba at hk ⊢
 split
 ·rfl
 ·split at hk
  ·rename_i e; subst e; exact hj i hi
  ·exact hD k hk i hi
theorem zjG {listed : Array Bool} (hs : listed.size = gops.size) (hb : ∀ j o,gops[j]? = some o → ∀ i ∈ zwU o,i < j) : ∀ (n : Nat) ,n < gops.size → Dof listed n = false → Region.ready .any gops listed ≠ []:=by
 intro n
 induction n using Nat.strongRecOn with
 | _ n ih =>
   intro hn hd hr
   by_cases h : ∀ i ∈ zas gops n,Dof listed i = true
   ·have : n ∈ Region.ready .any gops listed:=(zkk hs).2 ⟨⟨gops[n],yb hn⟩,hd,h⟩
    rw [hr] at this
    simp at this
   ·simp only [Classical.not_forall] at h
    obtain ⟨i,hi,hne⟩:=h
    have hlt : i < n:=by
     unfold zas at hi
     rw [yb hn] at hi
     exact hb n _ (yb hn) i hi
    exact ih i hlt (by omega) (by simpa using hne) hr
theorem zsE (pl : Plan P κ nt gops xs p) (hlen : ∀ D,(envD D).length = κ.length) (hnd : κ.Nodup) (hbd : ∀ t ∈ κ,t < nt) {D : Nat → Bool} {g : G} {w : World} {a : Act} (M : Mid gops xs κ nt p envD v σD g0 w0 σ0 D g w a) {j : Nat} (hj : j ≤ p) {f : Nat → Option Tmp} (hf : ∀ i t,i < j → f i = some t → D i = true ∧ lo gops xs i = some t) :
  Fr κ ((yh j).reverse.map f) nt g w ⟨(yh j).reverse.map v,envD D,σD D,b,l⟩ a:=by
 refine ⟨M.size,hlen D,fun i t ht => M.slot i t ht,fun d t hd _ => ?_,fun d t hd => ?_,hnd,hbd,M.df⟩
 ·have hdj : d < j:=by have:=zb hd; simpa using this
  rw [zju f hdj] at hd
  injection hd with hd
  obtain ⟨h1,h2⟩:=hf _ t (by omega) hd
  simp only [List.getD_eq_getElem?_getD,zju v hdj,Option.getD_some]
  exact M.done _ t (by omega) h1 h2
 ·have hdj : d < j:=by have:=zb hd; simpa using this
  rw [zju f hdj] at hd
  injection hd with hd
  obtain ⟨_,h2⟩:=hf _ t (by omega) hd
  unfold lo at h2
  split at h2
  ·rename_i o x ho hx
   have hp:=pl.pre _ o x (by omega) ho hx
   unfold zaO at h2
   split at h2
   ·rename_i t' heq1 heq2
    injection h2 with h2
    subst h2
    have:=hp
    rw [heq1,heq2] at this
    simp only [okD,yj,yn] at this
    simpa using this.1
   ·cases h2
  ·cases h2
def left (D : Nat → Bool) (l : List Nat) : Nat:=(l.filter fun i => !D i).length
theorem zzM (D : Nat → Bool) (j : Nat) : ∀ l : List Nat,left (zba D j) l ≤ left D l
 | [] => ym _
 | x :: l => by
   have ih:=zzM D j l
   unfold left at ih ⊢
   simp only [yk]
   by_cases hx : x = j
   ·subst hx
    cases D x <;> simp [zba] at ih ⊢ <;> omega
   ·have : zba D j x = D x:=by simp [zba,hx]
    rw [this]
    cases D x <;> simp at ih ⊢ <;> omega
theorem zuF (D : Nat → Bool) (j : Nat) (hD : D j = false) : ∀ l : List Nat,j ∈ l → left (zba D j) l < left D l
 | [],h => by simp at h
 | x :: l,h => by
   have hle:=zzM D j l
   by_cases hx : x = j
   ·subst hx
    unfold left at hle ⊢
    simp only [yk,hD]
    simp [zba] at hle ⊢
    omega
   ·have ih:=zuF D j hD l (by simpa [Ne.symm hx] using h)
    unfold left at ih ⊢
    simp only [yk]
    have : zba D j x = D x:=by simp [zba,hx]
    rw [this]
    cases D x <;> simp at ih ⊢ <;> omega
theorem zsM {D : Nat → Bool} {n : Nat} (h : left D (yh n) = 0) : ∀ i,i < n → D i = true:=fun i hi => by
 have:=List.eq_nil_of_length_eq_zero h
 rw [List.filter_eq_nil_iff] at this
 simpa using this i (by simpa using hi)
variable {Q : Exit → Act → World → Prop} {Cf : zad}
theorem zsP {m : Nat} {o : Go.Oper} {x : Oper} (ho : gops[m]? = some o) (hx : xs[m]? = some x) : zhJ gops xs (m + 1) = zaO o.dst x.dst :: zhJ gops xs m:=by
 unfold zhJ
 rw [yq,List.reverse_append]
 simp [lo,ho,hx]
theorem zq7 (S : zgQ P Cf) (pl : Plan P κ nt gops xs p) (hrr : ∀ i x,xs[i]? = some x → step Cf (rr i) x = some (rr (i + 1))) (hend : ∀ g w a loc,Ext g0 w0 σ0 g w (rr gops.size).st → Rel g w (rr gops.size).st → Fr κ loc nt g w (rr gops.size) a → Q .normal a w) :
  ∀ (fuel m : Nat) (listed : Array Bool) (g : G) (w : World) (a : Act),listed.size = gops.size → p ≤ m → m ≤ gops.size → (∀ i,Dof listed i = decide (i < m)) → gops.size ≤ m + fuel → Ext g0 w0 σ0 g w (rr m).st → Rel g w (rr m).st → Fr κ (zhJ gops xs m) nt g w (rr m) a → wpAny P .any gops Q fuel listed a w
 | fuel,m,listed,g,w,a,hs,hpm,hm,hD,hf,H,R0,F => by
   have hready : ∀ j,j ∈ Region.ready .any gops listed → j = m ∧ j < gops.size:=fun j hj => by
    obtain ⟨⟨o,ho⟩,h0,h1⟩:=(zkk hs).1 hj
    have hlt : j < gops.size:=(ye.1 ho).1
    rw [hD] at h0
    have hjm : ¬ j < m:=by simpa using h0
    refine ⟨?_,hlt⟩
    have hx : xs[j]? = some (xs[j]'(by rw [pl.len]; exact hlt)):=yf (by rw [pl.len]; exact hlt)
    have hclo:=(pl.tail j o _ (by omega) ho hx).2.2.2
    have hdown : zhp gops (Dof listed):=fun k hk i hi => by
     rw [hD] at hk ⊢
     have hkm : k < m:=by simpa using hk
     unfold zas at hi
     split at hi
     ·rename_i o' ho'
      have:=pl.back k o' ho' i hi
      simp; omega
     ·simp at hi
    rcases yo m j with h | h
    ·have:=za1 hdown (hclo m h) h1
     rw [hD] at this
     simp at this
    ·omega
   have fin : Region.ready .any gops listed = [] → Q .normal a w:=fun hr => by
    have : m = gops.size:=by
     rcases yo m gops.size with h | h
     ·exact absurd hr (zjG hs pl.back m h (by rw [hD]; simp))
     ·omega
    subst this
    exact hend g w a _ H R0 F
   cases fuel with
   | zero =>
     have hr : Region.ready .any gops listed = []:=by
      cases hq : Region.ready .any gops listed with
      | nil => rfl
      | cons j l =>
        have:=hready j (by rw [hq]; simp)
        omega
     exact ⟨hr,fin hr⟩
   | succ fuel =>
     refine ⟨fin,fun j hj => ?_⟩
     obtain ⟨rfl,hlt⟩:=hready j hj
     have ho : gops[j]? = some gops[j]:=yb hlt
     have hx : xs[j]? = some (xs[j]'(by rw [pl.len]; exact hlt)):=yf (by rw [pl.len]; exact hlt)
     obtain ⟨h1,h2,h3,_⟩:=pl.tail j _ _ hpm ho hx
     have key:=zeu (Q:=Q) (gops:=gops) (next:=wpAny P .any gops Q fuel (listed.setIfInBounds j true)) S R0 F h1 h2 h3 (hrr j _ hx) (fun g' w' u H1 R1 _ F1 =>
      zq7 S pl hrr hend fuel (j + 1) _ g' w' _ (by simpa using hs) (by omega) (by omega) (fun i => by
       rw [zij hs hlt]
       unfold zba
       split
       ·simp; omega
       ·rw [hD]
        rename_i hne
        simp only [decide_eq_decide]
        omega) (by omega) (H.trans H1) R1 (by rw [zsP ho hx]; exact F1)) (fun _ h => h)
     unfold wpOp
     simp only [ho]
     split
     ·rename_i hw
      rw [if_pos hw] at key
      exact .inl key
     ·rename_i hw
      rw [if_neg hw] at key
      exact key
termination_by fuel => fuel
def Local (P : Program) (κ : List Tmp) (nt : Nat) (gops : Array Go.Oper) (xs : List Oper) (v : Nat → V) (envD : (Nat → Bool) → List V) (σD : (Nat → Bool) → zd) (p b l : Nat) : Prop :=
 ∀ (j : Nat) (o : Go.Oper) (x : Oper) (D : Nat → Bool) (g : G) (w : World) (a : Act) (next : Act → World → Prop) (Q : Exit → Act → World → Prop),j < p → gops[j]? = some o → xs[j]? = some x → D j = false → (∀ i ∈ zas gops j,D i = true) → zhp gops D → (∀ i,p ≤ i → D i = false) → Rel g w (σD D) →
   Fr κ (zfi gops xs j) nt g w ⟨(yh j).reverse.map v,envD D,σD D,b,l⟩ a →
   (∀ g' w' u,Ext g w (σD D) g' w' (σD (zba D j)) → Rel g' w' (σD (zba D j)) → Fr κ (zaO o.dst x.dst :: zfi gops xs j) nt g' w' ⟨v j :: (yh j).reverse.map v,envD (zba D j),σD (zba D j),b,l⟩ (a.put o.dst u) → next (a.put o.dst u) w') →
   if Region.wanted o (yielded gops a.tmps) then o.wp P a w next Q else next (a.put o.dst undef) w
theorem zpw (pl : Plan P κ nt gops xs p) {i : Nat} {t : Tmp} (hi : i < p) (h : lo gops xs i = some t) : t ∉ κ:=by
 unfold lo at h
 split at h
 ·rename_i o x ho hx
  have hp:=pl.pre _ o x hi ho hx
  unfold zaO at h
  split at h
  ·rename_i t' heq1 heq2
   injection h with h
   subst h
   rw [heq1,heq2] at hp
   simp only [okD,yj,yn] at hp
   simpa using hp.1
  ·cases h
 ·cases h
theorem zuL (S : zgQ P Cf) (pl : Plan P κ nt gops xs p) (LS : Local P κ nt gops xs v envD σD p b l) (hrr : ∀ i x,xs[i]? = some x → step Cf (rr i) x = some (rr (i + 1)))
  (hrs : (rr p).rs = (yh p).reverse.map v) (hlen : ∀ D,(envD D).length = κ.length) (hnd : κ.Nodup) (hbd : ∀ t ∈ κ,t < nt)
  (hall : ∀ D,(∀ i,D i = decide (i < p)) → σD D = (rr p).st ∧ envD D = (rr p).env)
  (hend : ∀ g w a loc,Ext g0 w0 σ0 g w (rr gops.size).st → Rel g w (rr gops.size).st → Fr κ loc nt g w (rr gops.size) a → Q .normal a w) :
  ∀ (fuel : Nat) (listed : Array Bool) (g : G) (w : World) (a : Act),listed.size = gops.size → (∀ i,p ≤ i → Dof listed i = false) → zhp gops (Dof listed) → left (Dof listed) (yh gops.size) ≤ fuel → Mid gops xs κ nt p envD v σD g0 w0 σ0 (Dof listed) g w a → wpAny P .any gops Q fuel listed a w
 | fuel,listed,g,w,a,hs,hp,hcl,hf,M => by
   by_cases hfull : ∀ i,i < p → Dof listed i = true
   ·have hDp : ∀ i,Dof listed i = decide (i < p):=fun i => by
     by_cases hi : i < p
     ·simp [hi,hfull i hi]
     ·simp [hi,hp i (by omega)]
    obtain ⟨hst,hen⟩:=hall _ hDp
    have H:=M.ext
    have R0:=M.rel
    rw [hst] at H R0
    have F0:=zsE (b:=b) (l:=l) pl hlen hnd hbd M (ym p) (f:=lo gops xs) (fun i t hi ht => ⟨hfull i hi,ht⟩)
    rw [hst,hen,← hrs] at F0
    have F : Fr κ (zhJ gops xs p) nt g w (rr p) a:=⟨F0.size,F0.len,F0.env,F0.lc,F0.lk,F0.nd,F0.bd,F0.df⟩
    refine zq7 S pl hrr hend fuel p listed g w a hs (ym _) pl.p_le hDp ?_ H R0 F
    have hcount : ∀ n,n ≤ gops.size → n ≤ p + left (Dof listed) (yh n):=fun n => by
     induction n with
     | zero => intro _; omega
     | succ n ih =>
       intro hn
       have:=ih (by omega)
       unfold left at this ⊢
       rw [yq,List.filter_append,List.length_append]
       by_cases hnp : n < p
       ·omega
       ·have h0:=hp n (by omega)
        simp [h0]
        omega
    have:=hcount gops.size (ym _)
    omega
   ·have hready : ∀ j,j ∈ Region.ready .any gops listed → j < p ∧ j < gops.size ∧ Dof listed j = false ∧ ∀ i ∈ zas gops j,Dof listed i = true:=fun j hj => by
     obtain ⟨⟨o,ho⟩,h0,h1⟩:=(zkk hs).1 hj
     have hlt : j < gops.size:=(ye.1 ho).1
     refine ⟨?_,hlt,h0,h1⟩
     rcases yo j p with h | h
     ·exact h
     ·have hx : xs[j]? = some (xs[j]'(by rw [pl.len]; exact hlt)):=yf (by rw [pl.len]; exact hlt)
      have hclo:=(pl.tail j o _ h ho hx).2.2.2
      exact absurd (fun i hi => za1 hcl (hclo i (by omega)) h1) hfull
    obtain ⟨i0,hi0⟩:=Classical.not_forall.1 hfull
    obtain ⟨hi0,hne⟩:=Classical.not_imp.1 hi0
    have hne0 : Region.ready .any gops listed ≠ []:=zjG hs pl.back i0 (by have:=pl.p_le; omega) (by simpa using hne)
    cases fuel with
    | zero =>
      have:=zsM (Nat.le_zero.1 hf) i0 (by have:=pl.p_le; omega)
      exact absurd this hne
    | succ fuel =>
      refine ⟨fun hr => absurd hr hne0,fun j hj => ?_⟩
      obtain ⟨hjp,hlt,h0,h1⟩:=hready j hj
      have ho : gops[j]? = some gops[j]:=yb hlt
      have hx : xs[j]? = some (xs[j]'(by rw [pl.len]; exact hlt)):=yf (by rw [pl.len]; exact hlt)
      have hd:=pl.pre j _ _ hjp ho hx
      have F:=zsE (b:=b) (l:=l) pl hlen hnd hbd M (Nat.le_of_lt hjp) (f:=zzP gops xs j) (fun i t hi ht => by
       unfold zzP at ht
       split at ht
       ·rename_i hc
        exact ⟨h1 i (by simpa using hc),ht⟩
       ·cases ht)
      have key:=LS j _ _ (Dof listed) g w a (wpAny P .any gops Q fuel (listed.setIfInBounds j true)) Q hjp ho hx h0 h1 hcl hp M.rel F (fun g' w' u H1 R1 F1 =>
       zuL S pl LS hrr hrs hlen hnd hbd hall hend fuel _ g' w' _ (by simpa using hs) (fun i hi => by
        rw [zij hs hlt]
        unfold zba
        split
        ·omega
        ·exact hp i hi) (by rw [zij hs hlt]; exact zqt hcl h1) (by
        rw [zij hs hlt]
        have:=zuF (Dof listed) j h0 (yh gops.size) (by simpa using hlt)
        omega) (by
        rw [zij hs hlt]
        refine ⟨M.ext.trans H1,R1,F1.size,F1.df,fun i t ht => ?_,fun i t hi hDi ht => ?_⟩
        ·exact F1.env i t ht
        ·by_cases hij : i = j
         ·subst hij
          have hlo : zaO gops[i].dst (xs[i]'(by rw [pl.len]; exact hlt)).dst = some t:=by
           unfold lo at ht
           rw [ho,hx] at ht
           exact ht
          have:=F1.lc 0 t (by simp [hlo]) (by simp)
          simpa using this
         ·have hDi' : Dof listed i = true:=by
           unfold zba at hDi
           rwa [if_neg hij] at hDi
          have hold:=H1.zf _ _ (M.done i t hi hDi' ht)
          have hput : (a.put gops[j].dst u).tmps.getD t undef = a.tmps.getD t undef:=by
           cases hdst : gops[j].dst with
           | none => rfl
           | some t' =>
             have hne' : t' ≠ t:=fun e => by
              subst e
              rw [hdst] at hd
              unfold okD at hd
              split at hd
              ·rename_i heq _; cases heq
              ·
               rename_i t2 heq hxd
               injection heq with heq
               subst heq
               have hloc : lo gops xs j = some t':=by
                unfold lo
                rw [ho,hx]
                simp [zaO,hdst,hxd]
               exact hij (pl.apart i j t' hi hjp ht hloc)
              ·
               rename_i t2 q heq hxd
               injection heq with heq
               subst heq
               have hk : t' ∈ κ:=List.mem_of_getElem? (by simpa using hd)
               have hlo:=zpw pl hi ht
               exact hlo hk
              ·cases hd
             simp only [Act.put,zht]
             rw [if_neg (by simp [hne'])]
          rw [hput]
          exact hold))
      unfold wpOp
      simp only [ho]
      split
      ·rename_i hw
       rw [if_pos hw] at key
       exact .inl key
      ·rename_i hw
       rw [if_neg hw] at key
       exact key
termination_by fuel => fuel
end
end Go.A
namespace Go.A
def zAw : Option X → List X
 | some x => [x]
 | none => []
def opX : Op → List X
 | .mv x | .pnil _ x | .un _ x | .conv _ x | .len x | .lens x | .fa _ x | .ld _ x | .box _ x | .bxf _ x | .frz _ x | .stn _ x | .sla _ _ x | .str x | .nlc _ _ x | .ext x _ | .fld _ _ x | .nil x | .mks _ _ x | .mkc _ x | .mkr _ _ _ x => [x]
 | .pick c a b => [c,a,b]
 | .cpy _ x y | .bin _ x y | .eqa _ _ x y | .beq _ x y | .ia _ x y | .iaa _ _ x y | .idx _ x y | .steq _ x y | .st _ x y | .app _ x y | .lk _ _ x y | .mxn _ x y => [x,y]
 | .al _ _ | .nl _ _ | .mkm | .no _ => []
 | .bld _ parts _ => parts.map fun p => p.2.2
 | .bsl _ _ _ parts => parts.map fun p => p.2
 | .slc _ x lo hi mx => x :: (zAw lo ++ zAw hi ++ zAw mx)
 | .slcs x lo hi => x :: (zAw lo ++ zAw hi)
 | .mkf _ first caps => first ++ caps
 | .mu m k v => [m,k,v]
 | .call _ f args => f :: args
def zaS : Op → Nat
 | .mv _ | .pnil .. | .pick .. | .bin .. | .eqa .. | .beq .. | .un .. | .conv .. | .len _ | .lens _ | .fa .. | .iaa .. | .idx .. | .ext .. | .fld .. | .nil _ | .mkf .. | .mxn .. | .slcs .. | .bxf .. | .sla .. | .steq .. => 0
 | .bsl .fz _ _ _ => 0
 | .nl .fz _ => 0
 | .bld _ _ [] => 0
 | .ia .. | .slc .. => 1
 | .ld .. | .lk .. | .str .. => 2
 | .call .cl _ _ => 2
 | .st .. => 3
 | .al .. | .box .. | .mks .. | .mkc .. | .mkr .. | .mkm | .nl .. | .bsl .. | .bld .. => 4
 | _ => 5
section
variable {Cf : zad} {r r' r1 : R} {d : D}
theorem zqP {x : Option V} {r1 : R} (h : x.map (r.put d) = some r1) : ∃ v,x = some v ∧ r1 = r.put d v:=by
 rw [yc] at h
 obtain ⟨v,h1,h2⟩:=h
 exact ⟨v,h1,h2.symm⟩
theorem ziY {dflt : Nat} {x : Option X} (h : ∀ y ∈ zAw x,r'.get y = r.get y) : bound r' dflt x = bound r dflt x:=by
 cases x with
 | none => rfl
 | some y => simp [bound,h y (by simp [zAw])]
theorem zk9 : ∀ {qs : List (Nat × Nat × X)} {cs : List C},(∀ y ∈ qs.map (fun p => p.2.2),r'.get y = r.get y) → zng r' qs cs = zng r qs cs
 | [],_,_ => rfl
 | (off,sz,x) :: qs,cs,h => by
   simp only [zng,h x (by simp)]
   congr 1
   exact congrArg _ (funext fun c => zk9 fun y hy => h y (by simp at hy ⊢; exact .inr hy))
theorem zlp {sz : Nat} : ∀ {qs : List (Nat × X)} {cs : List (List C)},(∀ y ∈ qs.map (fun p => p.2),r'.get y = r.get y) → znY r' sz qs cs = znY r sz qs cs
 | [],_,_ => rfl
 | (i,x) :: qs,cs,h => by
   simp only [znY,h x (by simp)]
   congr 1
   exact zlp fun y hy => h y (by simp at hy ⊢; exact .inr hy)
theorem zib : ∀ {ys : List X},(∀ y ∈ ys,r'.get y = r.get y) → r'.gets ys = r.gets ys
 | [],_ => rfl
 | y :: ys,h => by
   have ih:=zib (ys:=ys) fun z hz => h z (yl _ hz)
   simp only [R.gets,h y (by simp),ih]
structure Same (n : Nat) (σ σ' : zd) : Prop where
 get : ∀ id o,id < n → σ[id]? = some o → σ'[id]? = some o
structure SameRow (n : Nat) (σ σ' : zd) : Prop where
 row : ∀ id ver sz o,id < n → σ[id]? = some o → o.isRow ver sz = true → ∃ o',σ'[id]? = some o' ∧ o'.isRow ver sz = true
theorem Same.rows {n : Nat} {σ σ' : zd} (h : Same n σ σ') : SameRow n σ σ':=⟨fun id ver sz o hid ho hr => ⟨o,h.get id o hid ho,hr⟩⟩
theorem zx7 {n : Nat} {σ σ' : zd} (h : Same n σ σ') {v v' : V} (hl : v.lt n = true) (hv : zCY σ v = some v') : zCY σ' v = some v':=by
 unfold zCY at hv ⊢
 split at hv
 ·rename_i id ver lo m
  have hid : id < n:=by simpa [V.lt,C.lt] using hl
  rw [yc] at hv ⊢
  obtain ⟨xs,h1,h2⟩:=hv
  rw [ya] at h1
  obtain ⟨o,h1,h3⟩:=h1
  exact ⟨xs,by rw [ya]; exact ⟨o,h.get id o hid h1,h3⟩,h2⟩
 all_goals exact hv
theorem zxf {n : Nat} {σ σ' : zd} (h : Same n σ σ') {v : V} {xs : List (List Fz)} (hl : v.lt n = true) (hv : elems σ v = some xs) : elems σ' v = some xs:=by
 unfold elems at hv ⊢
 split at hv
 ·rename_i id ver lo m
  have hid : id < n:=by simpa [V.lt,C.lt] using hl
  rw [ya] at hv ⊢
  obtain ⟨o,h1,h3⟩:=hv
  exact ⟨o,h.get id o hid h1,h3⟩
 all_goals exact hv
theorem zqa {n : Nat} {σ σ' : zd} (h : Same n σ σ') : ∀ {vs vs' : List V},V.lts n vs = true → zpK σ vs = some vs' → zpK σ' vs = some vs'
 | [],_,_,hv => hv
 | v :: vs,vs',hl,hv => by
   simp only [V.lts,yj] at hl
   simp only [zpK] at hv ⊢
   obtain ⟨y,z,h1,h2,rfl⟩:=zes hv
   rw [zx7 h hl.1 h1,zqa h hl.2 h2]
   rfl
theorem zmQ {n : Nat} : ∀ {a b : List V},V.lts n (a ++ b) = (V.lts n a && V.lts n b)
 | [],b => by simp [V.lts]
 | v :: a,b => by simp [V.lts,zmQ (a:=a),Bool.and_assoc]
theorem zuU {n : Nat} : ∀ {cs : List C},V.lts n (cs.map V.one) = C.lts n cs
 | [] => rfl
 | c :: cs => by simp [V.lts,V.lt,C.lts,zuU (cs:=cs)]
theorem zvn {n : Nat} : ∀ {ys : List X},(∀ y ∈ ys,(r.get y).lt n = true) → V.lts n (r.gets ys) = true
 | [],_ => rfl
 | y :: ys,h => by
   have ih:=zvn (ys:=ys) fun z hz => h z (yl _ hz)
   simp [R.gets,V.lts,h y (by simp),ih]
theorem zmZ {op : Op} {n : Nat} (hq : zaS op ≤ 2) (hg : ∀ x ∈ opX op,r'.get x = r.get x) (hl : ∀ x ∈ opX op,(r.get x).lt n = true) (h1 : zaS op = 1 → SameRow n r.st r'.st) (h2 : zaS op = 2 → Same n r.st r'.st) (h : za7 Cf r d op = some r1) :
  ∃ v,r1 = r.put d v ∧ za7 Cf r' d op = some (r'.put d v):=by
 have one : ∀ {x : Option V},x.map (r.put d) = some r1 → ∀ {y : Option V},(∀ v,x = some v → y = some v) → ∃ v,r1 = r.put d v ∧ y.map (r'.put d) = some (r'.put d v):=fun {x} hx {y} hy => by
  obtain ⟨v,e1,e2⟩:=zqP hx
  exact ⟨v,e2,by rw [hy v e1]; rfl⟩
 cases op <;> simp only [za7] at h ⊢ <;> simp only [opX,List.mem_cons,List.not_mem_nil,or_false,forall_eq_or_imp,forall_eq] at hg hl
 case mv x => injection h with h; exact ⟨_,h.symm,by rw [hg]⟩
 case pick c x y => rw [hg.1,hg.2.1,hg.2.2]; exact one h fun _ e => e
 case bin o x y => rw [hg.1,hg.2]; exact one h fun _ e => e
 case beq neg x y => rw [hg.1,hg.2]; exact one h fun _ e => e
 case eqa n neg x y => rw [hg.1,hg.2]; exact one h fun _ e => e
 case un o x => rw [hg]; exact one h fun _ e => e
 case pnil neg x => rw [hg]; exact one h fun _ e => e
 case conv k x => rw [hg]; exact one h fun _ e => e
 case len x => rw [hg]; exact one h fun _ e => e
 case lens x => rw [hg]; exact one h fun _ e => e
 case fa off x => rw [hg]; exact one h fun _ e => e
 case iaa n' sz x i => rw [hg.1,hg.2]; exact one h fun _ e => e
 case ext x i => rw [hg]; exact one h fun _ e => e
 case idx n' x i => rw [hg.1,hg.2]; exact one h fun _ e => e
 case steq neg x y => rw [hg.1,hg.2]; exact one h fun _ e => e
 case sla n' lo x => rw [hg]; exact one h fun _ e => e
 case bxf sz x =>
  rw [hg]
  split at h
  ·rename_i hc
   rw [if_pos hc]
   rw [yc] at h
   obtain ⟨fs,h1',rfl⟩:=h
   exact ⟨_,rfl,by rw [h1']; rfl⟩
  ·cases h
 case str x =>
  rw [hg]
  have hs:=h2 rfl
  refine one h fun v e => ?_
  rw [ya] at e ⊢
  obtain ⟨xs,e1,e2⟩:=e
  exact ⟨xs,zxf hs (by simpa using hl) e1,e2⟩
 case fld off sz x => rw [hg]; exact one h fun _ e => e
 case nil x => rw [hg]; exact one h fun _ e => e
 case mxn b x y => rw [hg.1,hg.2]; exact one h fun _ e => e
 case mkf f first caps =>
  injection h with h
  rw [zib (r:=r) (r':=r') fun y hy => hg y (yg _ hy),zib (r:=r) (r':=r') fun y hy => hg y (yi _ hy)]
  exact ⟨_,h.symm,rfl⟩
 case slcs x lo hi =>
  have e1:=hg.1
  have e2 : zuj r' lo hi (r'.get x) = zuj r lo hi (r.get x):=by
   rw [e1]
   unfold zuj
   split
   ·rw [ziY (r:=r) (r':=r') fun y hy => hg.2 y (yg _ hy),ziY (r:=r) (r':=r') fun y hy => hg.2 y (yi _ hy)]
   ·rfl
  rw [e2]
  exact one h fun _ e => e
 case ia sz x i =>
  rw [hg.1,hg.2]
  refine one h fun v e => ?_
  have hrow:=h1 rfl
  unfold aia at e ⊢
  split at e
  ·rename_i id ver lo m kk q heq _
   split at e
   ·rename_i hc
    rw [if_pos hc]
    rw [ya] at e ⊢
    obtain ⟨o,e1,e2⟩:=e
    unfold zsF at e2
    split at e2
    ·rename_i hr
     have hid : id < n:=by
      have:=hl.1
      rw [heq] at this
      simpa [V.lt,C.lt] using this
     obtain ⟨o',q1,q2⟩:=hrow.row id ver sz o hid e1 hr
     exact ⟨o',q1,by unfold zsF; rw [if_pos q2]; exact e2⟩
    ·cases e2
   ·cases e
  all_goals exact e
 case slc sz x lo hi mx =>
  have hrow:=h1 rfl
  have e1:=hg.1
  have hm : zBo r' hi mx = zBo r hi mx:=by
   cases mx with
   | none => rfl
   | some m => cases hi with
     | none => rfl
     | some hh =>
       have q1:=hg.2 m (by simp [zAw])
       have q2:=hg.2 hh (by simp [zAw])
       simp only [zBo,q1,q2]
  by_cases hq : zBo r hi mx = true
  case neg => rw [if_neg hq] at h; cases h
  rw [if_pos hq] at h
  rw [if_pos (hm.trans hq)]
  refine one h fun v e => ?_
  have b1 : ∀ d,bound r' d lo = bound r d lo:=fun d => ziY fun y hy => hg.2 y (yg _ (yg _ hy))
  have b2 : ∀ d,bound r' d hi = bound r d hi:=fun d => ziY fun y hy => hg.2 y (yg _ (yi _ hy))
  rw [e1]
  unfold zEK at e ⊢
  split at e
  ·rw [b1,b2]; exact e
  ·rw [b1,b2]; exact e
  ·rename_i id ver l0 m heq
   rw [b1,b2]
   split at e
   ·cases e
   ·rename_i hmx
    rw [if_neg hmx]
    obtain ⟨a,b,q1,q2,q3⟩:=zlH e
    rw [q1,q2]
    show zyd r'.st sz id ver l0 m a b = some v
    unfold zyd at q3 ⊢
    split at q3
    ·rename_i hc
     have hid : id < n:=by
      have:=hl.1
      rw [heq] at this
      simpa [V.lt,C.lt] using this
     have hany : (r'.st[id]?).any (Ob.isRow ver sz) = true:=by
      have:=hc.2.2
      cases ho : r.st[id]? with
      | none => simp [ho] at this
      | some o =>
        simp [ho] at this
        obtain ⟨o',q4,q5⟩:=hrow.row id ver sz o hid ho this
        simp [q4,q5]
     rw [if_pos ⟨hc.1,hc.2.1,hany⟩]
     exact q3
    ·cases q3
  ·cases e
 case ld sz x =>
  have hs:=h2 rfl
  rw [hg]
  refine one h fun v e => ?_
  have key : ∀ {id ver i : Nat} {el : List C},id < n → r.st.elem id ver i = some el → r'.st.elem id ver i = some el:=fun {id ver i el} hid he => by
   unfold zd.elem at he ⊢
   rw [ya] at he ⊢
   obtain ⟨o,q1,q2⟩:=he
   exact ⟨o,hs.get id o hid q1,q2⟩
  unfold ald at e ⊢
  split at e
  ·rename_i id ver i off heq
   have hid : id < n:=by
    have:=hl
    rw [heq] at this
    simpa [V.lt,C.lt] using this
   rw [yc] at e ⊢
   obtain ⟨c,q1,q2⟩:=e
   unfold zd.cell at q1 ⊢
   rw [ya] at q1
   obtain ⟨el,q3,q4⟩:=q1
   exact ⟨c,by rw [ya]; exact ⟨el,key hid q3,q4⟩,q2⟩
  ·exact e
  ·rename_i m id ver i off heq
   have hid : id < n:=by
    have:=hl
    rw [heq] at this
    simpa [V.lt,C.lt] using this
   rw [yc] at e ⊢
   obtain ⟨c,q1,q2⟩:=e
   rw [ya] at q1
   obtain ⟨el,q3,q4⟩:=q1
   exact ⟨c,by rw [ya]; exact ⟨el,key hid q3,q4⟩,q2⟩
  ·exact e
  ·cases e
 case lk zero ok m k =>
  have hs:=h2 rfl
  rw [hg.1,hg.2]
  refine one h fun v e => ?_
  unfold alk at e ⊢
  split at e
  ·rename_i id kk heq _
   have hid : id < n:=by
    have:=hl.1
    rw [heq] at this
    simpa [V.lt,C.lt] using this
   rw [yc] at e ⊢
   obtain ⟨es,q1,q2⟩:=e
   rw [ya] at q1
   obtain ⟨o,q3,q4⟩:=q1
   exact ⟨es,by rw [ya]; exact ⟨o,hs.get id o hid q3,q4⟩,q2⟩
  ·exact e
  ·cases e
 case call m f args =>
  cases m
  case cl =>
   have hs:=h2 rfl
   have e1:=hg.1
   have e2:=zib (r:=r) (r':=r') (ys:=args) hg.2
   rw [e1,e2]
   unfold znW at h ⊢
   split at h
   ·rename_i g first caps heq
    simp only at h ⊢
    rw [ya] at h
    obtain ⟨x,q1,q2⟩:=h
    rw [ya] at q1
    obtain ⟨aS,q3,q4⟩:=q1
    have hlt : V.lts n (first.map V.one ++ (r.gets args ++ caps.map V.one)) = true:=by
     have h0:=hl.1
     rw [heq] at h0
     simp only [V.lt,C.lt,yj] at h0
     rw [zmQ,zmQ,zuU,zuU,zvn hl.2,h0.1,h0.2]
     rfl
    rw [zqa hs hlt q3]
    simp only [yr,q4]
    unfold zu6 at q2 ⊢
    split at q2
    ·rename_i hc
     injection q2 with q2
     exact ⟨_,q2.symm,by rw [if_pos hc]⟩
    ·cases q2
   ·cases h
  all_goals (simp only [zaS] at hq; omega)
 case bsl b sz zero parts =>
  cases b <;> simp only [zaS] at hq
  case fz =>
   rw [zlp (r:=r) (r':=r') hg]
   rw [ya] at h
   obtain ⟨es,q1,q2⟩:=h
   simp only [zvz,yc] at q2
   obtain ⟨xs,q2,q3⟩:=q2
   exact ⟨vsl xs,q3.symm,by rw [q1]; simp only [yr,zvz,q2,Option.map_some,zCT]⟩
  all_goals omega
 case nl b sz =>
  cases b <;> simp only [zaS] at hq
  case fz =>
   simp only [anl,Option.some.injEq] at h ⊢
   exact ⟨_,h.symm,rfl⟩
  all_goals omega
 case bld zero parts fresh =>
  cases fresh with
  | nil =>
    rw [zk9 (r:=r) (r':=r') hg]
    rw [yc] at h
    obtain ⟨cs,q1,q2⟩:=h
    simp only [zfZ] at q1 ⊢
    refine ⟨.agg cs,?_,by rw [q1]; simp [zDT,tokens,R.allocs]⟩
    rw [← q2]
    simp [zDT,tokens,R.allocs]
  | cons j js => simp only [zaS] at hq; omega
 all_goals (simp only [zaS] at hq; omega)
end
end Go.A

/- A part of the proof of SchedDepth. Conditions: none. -/
import Derived.Test.YtmkncmffaaninaaGreatDAM
set_option linter.unusedVariables false
set_option linter.unusedSimpArgs false
set_option linter.unusedSectionVars false
open Bool renaming and_eq_true → ya,not_eq_true' → ye,and_eq_false_iff → yk,or_eq_true → ym,not_eq_false' → yo,not_eq_false → yp,not_eq_true → yq
open List renaming mem_of_getElem? → yb,getD_eq_getElem?_getD → yc,getElem?_eq_getElem → yd,getElem?_append_left → yi,replicate → yj,range → yl,all_eq_true → yr
open Array renaming getElem?_eq_getElem → yf,getElem?_eq_some_iff → yh
open Nat renaming lt_of_lt_of_le → yg,le_refl → yt,le_of_lt → yu
open Option renaming bind_some → yn
namespace Go.A
section
variable {P : Program} {κ : List Tmp} {nt : Nat} {gops : Array Go.Oper} {ps : List (Nat × Nat)} {xs : List Oper} {ms : List Nat} {p b l : Nat} {Cf : zad} {rr : Nat → R} {g0 : G} {w0 : World} {σ0 : zd}
theorem zqC {x : Oper} {q : Nat} (h : writes x = some q) : x.dst = .slot q:=by
 obtain ⟨d,op,gd⟩:=x
 cases d <;> simp [writes] at h
 subst h
 rfl
theorem zgA {x : Oper} {q : Nat} (h : x.dst = .slot q) : writes x = some q:=by
 obtain ⟨d,op,gd⟩:=x
 simp only at h
 subst h
 rfl
theorem ztL {α : Type} {l : List α} (hn : l.Nodup) {i j : Nat} {x : α} (h1 : l[i]? = some x) (h2 : l[j]? = some x) : i = j:=by
 induction l generalizing i j with
 | nil => simp at h1
 | cons y l ih =>
   rw [List.nodup_cons] at hn
   cases i with
   | zero =>
     cases j with
     | zero => rfl
     | succ j =>
       simp at h1 h2
       subst h1
       exact absurd (yb h2) hn.1
   | succ i =>
     cases j with
     | zero =>
       simp at h1 h2
       subst h2
       exact absurd (yb h1) hn.1
     | succ j =>
       simp at h1 h2
       rw [ih hn.2 h1 h2]
theorem zh8 {x : Oper} (h : zwJ x = true) : x.guard = none ∧ (x.dst = .loc ∨ ∃ q,x.dst = .slot q) ∧ ((∃ zero,x.op = .al zero []) ∨ ∃ zero n,x.op = .mks zero none n):=by
 unfold zwJ at h
 split at h
 all_goals first | exact ⟨rfl,.inl rfl,.inl ⟨_,rfl⟩⟩ | exact ⟨rfl,.inr ⟨_,rfl⟩,.inl ⟨_,rfl⟩⟩ | exact ⟨rfl,.inl rfl,.inr ⟨_,_,rfl⟩⟩ | cases h
theorem zCD {r r1 : R} {x : Oper} {zero : List C} (h : zwJ x = true) (hop : x.op = .al zero []) (hs : step Cf r x = some r1) :
  r1 = (r.at (r.st ++ [.cells 0 zero.length [zero]])).put x.dst (.one (.ptr (r.st.length + 0) 0 0 0)):=by
 obtain ⟨h1,_,_⟩:=zh8 h
 obtain ⟨d,op,gd⟩:=x
 simp only at h1 hop
 subst h1 hop
 simp only [step,za7,Option.some.injEq] at hs
 rw [← hs]
 simp [aal,tokens,zfZ,R.allocs,R.at]
theorem zC5 {r r1 : R} {x : Oper} {zero : List C} {n : X} (h : zwJ x = true) (hop : x.op = .mks zero none n) (hs : step Cf r x = some r1) :
  ∃ kk m,r.get n = .one (.f (.lit (.int kk m))) ∧ 0 ≤ m ∧ m ≤ LIM ∧ r1 = (r.at (r.st ++ [.cells 0 zero.length (yj m.toNat zero)])).put x.dst (.one (.own r.st.length 0 0 m.toNat)):=by
 obtain ⟨h1,_,_⟩:=zh8 h
 obtain ⟨d,op,gd⟩:=x
 simp only at h1 hop
 subst h1 hop
 simp only [step,za7] at hs
 unfold zDV at hs
 split at hs
 ·rename_i hv
  split at hs
  ·rename_i hm
   injection hs with hs
   exact ⟨_,_,hv,hm.1,hm.2,hs.symm⟩
  ·cases hs
 ·contradiction
 ·cases hs
theorem zsI (hrr : ∀ i x,xs[i]? = some x → step Cf (rr i) x = some (rr (i + 1))) {K : Nat} (hK : K < xs.length) (he : eff xs K = false) : (rr (K + 1)).st = (rr K).st :=
 zn9 hrr (a:=K) 1 (by omega) fun k h1 h2 h => by
  have : k = K:=by omega
  subst this
  unfold eff at he
  simp [h] at he
theorem zBV (C : Chk2 P κ nt gops ps xs ms p) (hrr : ∀ i x,xs[i]? = some x → step Cf (rr i) x = some (rr (i + 1))) (henv : (rr 0).env.length = κ.length) {D : Nat → Bool} {K : Nat} {B : Nat → Nat} {g : G} {w : World} {a : Act}
  (M : Mid2 P gops xs κ nt p rr g0 w0 σ0 D K B g w a) (hK : K < p) (h : eff xs K = false ∨ D K = true) : ∃ g',Mid2 P gops xs κ nt p rr g0 w0 σ0 D (K + 1) B g' w a:=by
 have hKl : K < xs.length:=yg hK C.w.le
 cases he : eff xs K with
 | false =>
   have hst:=zsI hrr hKl he
   have henv : ∀ q,zdO rr xs p D (K + 1) q = zdO rr xs p D K q:=fun q => by
    unfold zdO
    split
    ·rw [zeY he]
    ·rfl
   refine ⟨g,⟨by rw [hst]; exact M.ext,by rw [hst]; exact M.rel,M.size,M.df,fun i t ht => by rw [hst,henv]; exact M.slot i t ht,fun i t hi hv ht => by rw [hst]; exact M.done i t hi (by rw [← zeY he]; exact hv) ht,hK,fun i hi hei => ?_,
    fun i hi hD hv => M.raw i hi hD (by rw [← zeY he]; exact hv),fun i j hi hj hDi hvi hDj hvj => M.inj i j hi hj hDi (by rw [← zeY he]; exact hvi) hDj (by rw [← zeY he]; exact hvj)⟩⟩
   by_cases e : i = K
   ·subst e; rw [he] at hei; cases hei
   ·exact M.before i (by omega) hei
 | true =>
   have hD : D K = true:=by
    rcases h with h | h
    ·rw [he] at h; cases h
    ·exact h
   have hvK : vis xs D K K = false:=by simp [vis,he]
   obtain ⟨⟨o,x,sz,es,arr,ty,t,kd,ho,hx,hal,hdst,hb,hptr,hz,hrow,hkd,hstep⟩,how,hno,hnew⟩:=M.raw K hK hD hvK
   obtain ⟨hg,hd,_⟩:=zh8 hal
   obtain ⟨H1,R1,hv,hp⟩:=zFD M.rel M.ext hz hrow hkd hb how hno hnew
   have hst : (rr (K + 1)).st = (rr K).st ++ [.cells 0 sz es]:=by rw [hstep,zeX]; rfl
   rw [← hst] at H1 R1 hv hp
   have hlt : K < gops.size:=by rw [← C.len]; exact hKl
   have hod:=(C.pre_some hK ho hx).1
   rw [hdst] at hod
   have hvis1 : vis xs D (K + 1) K = true:=by simp [vis,hD]
   refine ⟨_,⟨H1,R1,M.size,M.df,fun q t' ht' => ?_,fun i t' hi hvi ht' => ?_,hK,fun i hi hei => ?_,fun i hi hDi hvi => ?_,fun i j hi hj hDi hvi hDj hvj hB => ?_⟩⟩
   ·
    by_cases hw : wr xs p q = some K
    ·have hw':=zgb hw
     obtain ⟨_,x',hx',hwx⟩:=hw'
     rw [hx] at hx'
     injection hx' with hx'
     subst hx'
     unfold zdO
     rw [hw]
     simp only [hvis1,if_true]
     have hds : x.dst = .slot q:=by
      exact zqC hwx
     rw [hds] at hod
     simp only [okD,beq_iff_eq] at hod
     rw [ht'] at hod
     injection hod with hod
     subst hod
     rw [hptr]
     have hlen : q < (rr K).env.length:=by
      rw [(zgk C.w hrr K (yu hK)).1,henv]
      exact zb ht'
     have : (rr (K + 1)).env.getD q vun = kd.v (rr K).st.length:=by
      rw [hstep,hds]
      simp [R.put,R.at,yc,hlen]
     rw [this]
     exact hp
    ·have : zdO rr xs p D (K + 1) q = zdO rr xs p D K q:=by
      unfold zdO
      split
      ·rename_i k hk
       rw [zkp (fun e => by subst e; exact hw hk)]
      ·rfl
     rw [this]
     exact hv _ _ (M.slot q t' ht')
   ·by_cases e : i = K
    ·subst e
     have hl : lo gops xs i = zaO o.dst x.dst:=by unfold lo; rw [ho,hx]
     rw [hl,hdst] at ht'
     rcases hd with hd | ⟨q,hd⟩
     ·rw [hd] at ht'
      simp only [zaO,Option.some.injEq] at ht'
      subst ht'
      rw [hptr]
      have : za8 rr i = kd.v (rr i).st.length:=by
       unfold za8
       rw [hstep,hd]
       rfl
      rw [this]
      exact hp
     ·rw [hd] at ht'
      simp [zaO] at ht'
    ·rw [zkp e] at hvi
     exact hv _ _ (M.done i t' hi hvi ht')
   ·by_cases e : i = K
    ·subst e; exact hD
    ·exact M.before i (by omega) hei
   ·have e : i ≠ K:=fun e => by subst e; rw [hvis1] at hvi; cases hvi
    rw [zkp e] at hvi
    have hne : B i ≠ B K:=fun hB => e (M.inj i K hi hK hDi hvi hD hvK hB)
    obtain ⟨k1,k2,k3,k4⟩:=M.raw i hi hDi hvi
    exact ⟨k1,(zaF g.ow _ hne).trans k2,k3,k4⟩
   ·have e1 : i ≠ K:=fun e => by subst e; rw [hvis1] at hvi; cases hvi
    have e2 : j ≠ K:=fun e => by subst e; rw [hvis1] at hvj; cases hvj
    rw [zkp e1] at hvi
    rw [zkp e2] at hvj
    exact M.inj i j hi hj hDi hvi hDj hvj hB
def zyn (xs : List Oper) (p : Nat) (D : Nat → Bool) (K : Nat) : Prop:=K = p ∨ (eff xs K = true ∧ D K = false)
theorem zz6 (C : Chk2 P κ nt gops ps xs ms p) (hrr : ∀ i x,xs[i]? = some x → step Cf (rr i) x = some (rr (i + 1))) (henv : (rr 0).env.length = κ.length) {D : Nat → Bool} {B : Nat → Nat} {w : World} {a : Act} : ∀ (n K : Nat) (g : G),p - K = n →
  Mid2 P gops xs κ nt p rr g0 w0 σ0 D K B g w a → ∃ K' g',Mid2 P gops xs κ nt p rr g0 w0 σ0 D K' B g' w a ∧ zyn xs p D K'
 | 0,K,g,hn,M => ⟨K,g,M,.inl (by have:=M.kp; omega)⟩
 | n + 1,K,g,hn,M => by
   by_cases h : eff xs K = false ∨ D K = true
   ·obtain ⟨g',M'⟩:=zBV C hrr henv M (by omega) h
    exact zz6 C hrr henv n (K + 1) g' (by omega) M'
   ·simp only [not_or,yp,yq] at h
    exact ⟨K,g,M,.inr h⟩
theorem zBt {D : Nat → Bool} {K j : Nat} (hS : zyn xs p D K) (h : D j = true) (hj : j < p) (he : eff xs j = true) : j ≠ K:=fun e => by
 subst e
 rcases hS with hS | ⟨_,hS⟩
 ·omega
 ·rw [h] at hS; cases hS
theorem Raw.ext {g g' : G} {w w' : World} {a a' : Act} {σ σ' : zd} {i b : Nat} (h : Raw P gops xs rr w0 g w a i b) (H : Ext g w σ g' w' σ') (ht : ∀ t,(∃ o,gops[i]? = some o ∧ o.dst = some t) → a'.tmps.getD t undef = a.tmps.getD t undef) : Raw P gops xs rr w0 g' w' a' i b:=by
 obtain ⟨⟨o,x,sz,es,arr,ty,t,kd,h1,h2,h3,h6,h7,h8,k⟩,h9,h10,h11⟩:=h
 have hlt : b < w.heap.size:=(yh.1 h7).1
 exact ⟨⟨o,x,sz,es,arr,ty,t,kd,h1,h2,h3,h6,(H.frame b hlt h9).trans h7,(ht t ⟨o,h1,h6⟩).trans h8,k⟩,(H.ow b hlt).trans h9,fun o ho => h10 o (H.new b o ho hlt h9),h11⟩
def zmD (gops : Array Go.Oper) (i : Nat) : Option Tmp:=(gops[i]?).bind (·.dst)
theorem zst (C : Chk2 P κ nt gops ps xs ms p) (hnd : κ.Nodup) {i j : Nat} (hi : i < p) (hj : j < p) (hne : i ≠ j) {t : Tmp} (h1 : zmD gops i = some t) (h2 : zmD gops j = some t) : False:=by
 have hil : i < gops.size:=yg hi C.p_le
 have hjl : j < gops.size:=yg hj C.p_le
 have hoi : gops[i]? = some gops[i]:=yf hil
 have hoj : gops[j]? = some gops[j]:=yf hjl
 have hxi : xs[i]? = some (xs[i]'(by rw [C.len]; exact hil)):=yd (by rw [C.len]; exact hil)
 have hxj : xs[j]? = some (xs[j]'(by rw [C.len]; exact hjl)):=yd (by rw [C.len]; exact hjl)
 have di:=(C.pre_some hi hoi hxi).1
 have dj:=(C.pre_some hj hoj hxj).1
 unfold zmD at h1 h2
 rw [hoi] at h1
 rw [hoj] at h2
 simp only [yn] at h1 h2
 rw [h1] at di
 rw [h2] at dj
 cases hdi : (xs[i]'(by rw [C.len]; exact hil)).dst with
 | no => rw [hdi] at di; simp [okD] at di
 | loc =>
   rw [hdi] at di
   cases hdj : (xs[j]'(by rw [C.len]; exact hjl)).dst with
   | no => rw [hdj] at dj; simp [okD] at dj
   | loc =>
     have e1 : lo gops xs i = some t:=by unfold lo; rw [hoi,hxi]; simp [zaO,h1,hdi]
     have e2 : lo gops xs j = some t:=by unfold lo; rw [hoj,hxj]; simp [zaO,h2,hdj]
     exact hne (C.plan.apart i j t hi hj e1 e2)
   | slot q =>
     rw [hdj] at dj
     simp only [okD,beq_iff_eq] at dj
     simp only [okD,ya,ye] at di
     have : t ∈ κ:=yb dj
     simp [this] at di
 | slot q =>
   rw [hdi] at di
   simp only [okD,beq_iff_eq] at di
   cases hdj : (xs[j]'(by rw [C.len]; exact hjl)).dst with
   | no => rw [hdj] at dj; simp [okD] at dj
   | loc =>
     rw [hdj] at dj
     simp only [okD,ya,ye] at dj
     have : t ∈ κ:=yb di
     simp [this] at dj
   | slot q' =>
     rw [hdj] at dj
     simp only [okD,beq_iff_eq] at dj
     have hqq : q = q':=ztL hnd di dj
     subst hqq
     rcases Nat.lt_or_gt_of_ne hne with h | h
     ·exact (C.pair h hj hxi hxj).2.1 q (zgA hdi) (zgA hdj)
     ·exact (C.pair h hi hxj hxi).2.1 q (zgA hdj) (zgA hdi)
theorem zlU {a : Act} {d : Option Tmp} {u : Value} {t : Tmp} (h : d ≠ some t) : (a.put d u).tmps.getD t undef = a.tmps.getD t undef:=by
 cases d with
 | none => rfl
 | some t' =>
   simp only [Act.put,zht]
   rw [if_neg (fun e => h (by rw [e.1]))]
end
end Go.A
namespace Go.A
section
variable {P : Program} {κ : List Tmp} {nt : Nat} {gops : Array Go.Oper} {ps : List (Nat × Nat)} {xs : List Oper} {ms : List Nat} {p b l : Nat} {Cf : zad} {rr : Nat → R} {g0 : G} {w0 : World} {σ0 : zd}
theorem zCt (C : Chk2 P κ nt gops ps xs ms p) {D : Nat → Bool} {K j i : Nat} (hcl : zhp gops D) (hE : ∀ i ∈ zas gops j,D i = true) (hS : zyn xs p D K) (hij : i < j) (hj : j < p) {x y : Oper} (hx : xs[i]? = some x) (hy : xs[j]? = some y) (hD : D i = true)
  (hu : zwJ x = true → ztE xs gops j i y = true) : vis xs D K i = true:=by
 cases he : eff xs i with
 | false => simp [vis,hD,he]
 | true =>
   have hne:=zBt hS hD (by omega) he
   have hlt : i < K:=by
    rcases Nat.lt_trichotomy i K with h | h | h
    ·exact h
    ·exact absurd h hne
    ·rcases hS with hS | ⟨hS1,hS2⟩
     ·omega
     ·have hKl : K < xs.length:=by have:=C.w.le; omega
      have hxK : xs[K]? = some xs[K]:=yd hKl
      rcases (C.pair h (by omega) hxK hx).2.2.1 hS1 he with hal | hr
      ·have:=(C.pair hij hj hx hy).2.2.2 hal (hu hal) K h hS1
       have:=za1 hcl this hE
       rw [hS2] at this; cases this
      ·have:=za1 hcl hr (hcl i hD)
       rw [hS2] at this; cases this
   simp [vis,hD,hlt]
theorem zqy (C : Chk2 P κ nt gops ps xs ms p) (hrr : ∀ i x,xs[i]? = some x → step Cf (rr i) x = some (rr (i + 1))) (henv : (rr 0).env.length = κ.length) (hnd : κ.Nodup) (hbd : ∀ t ∈ κ,t < nt) {D : Nat → Bool} {K j : Nat} {B : Nat → Nat} {g : G} {w : World} {a : Act}
  (hj : j ≤ p) (f : Nat → Option Tmp) (hf : ∀ i t,i < j → f i = some t → vis xs D K i = true ∧ lo gops xs i = some t) (M : Mid2 P gops xs κ nt p rr g0 w0 σ0 D K B g w a) :
  Fr κ ((yl j).reverse.map f) nt g w ⟨(yl j).reverse.map (za8 rr),zn2 rr xs p D K,(rr K).st,b,l⟩ a:=by
 refine ⟨M.size,by simp [zn2,henv],fun i t ht => by simp only [zmh C.w hrr]; exact M.slot i t ht,fun d t hd _ => ?_,fun d t hd => ?_,hnd,hbd,M.df⟩
 ·have hdj : d < j:=by have:=zb hd; simpa using this
  rw [zju f hdj] at hd
  injection hd with hd
  obtain ⟨h1,h2⟩:=hf _ t (by omega) hd
  simp only [yc,zju (za8 rr) hdj,Option.getD_some]
  exact M.done _ t (by omega) h1 h2
 ·have hdj : d < j:=by have:=zb hd; simpa using this
  rw [zju f hdj] at hd
  injection hd with hd
  obtain ⟨_,h2⟩:=hf _ t (by omega) hd
  exact zpw C.plan (by omega : j - 1 - d < p) h2
theorem zpt {D : Nat → Bool} {K K1 j i : Nat} (h : (K1 = K ∧ eff xs j = false) ∨ (K1 = K + 1 ∧ j = K)) : vis xs (zba D j) K1 i = if i = j then true else vis xs D K i:=by
 by_cases e : i = j
 ·subst e
  rw [if_pos rfl]
  rcases h with ⟨_,h⟩ | ⟨rfl,rfl⟩
  ·simp [vis,zba,h]
  ·simp [vis,zba]
 ·rw [if_neg e]
  have : zba D j i = D i:=by simp [zba,e]
  unfold vis
  rw [this]
  rcases h with ⟨rfl,_⟩ | ⟨rfl,rfl⟩
  ·rfl
  ·have : decide (i < j + 1) = decide (i < j):=by
    simp only [decide_eq_decide]
    omega
   rw [this]
theorem ztz (C : Chk2 P κ nt gops ps xs ms p) (hrr : ∀ i x,xs[i]? = some x → step Cf (rr i) x = some (rr (i + 1))) (henv : (rr 0).env.length = κ.length) (hnd : κ.Nodup) {D : Nat → Bool} {K K1 j : Nat} {B : Nat → Nat} {g g' : G} {w w' : World} {a : Act} {u : Value} {o : Go.Oper} {x : Oper} {v : V} {σ1 : zd}
  (M : Mid2 P gops xs κ nt p rr g0 w0 σ0 D K B g w a) (hK : (K1 = K ∧ eff xs j = false) ∨ (K1 = K + 1 ∧ j = K)) (hj : j < p) (hDj : D j = false) (ho : gops[j]? = some o) (hx : xs[j]? = some x) (hv : rr (j + 1) = ((rr j).at σ1).put x.dst v)
  (H : Ext g w (rr K).st g' w' (rr K1).st) (R1 : Rel g' w' (rr K1).st)
  (F : Fr κ (zaO o.dst x.dst :: zfi gops xs j) nt g' w' ((⟨(yl j).reverse.map (za8 rr),zn2 rr xs p D K,(rr K1).st,b,l⟩ : R).put x.dst v) (a.put o.dst u)) :
  Mid2 P gops xs κ nt p rr g0 w0 σ0 (zba D j) K1 B g' w' (a.put o.dst u):=by
 have hval : x.dst = .loc → za8 rr j = v:=fun h => by unfold za8; rw [hv,h]; rfl
 have hod:=(C.pre_some hj ho hx).1
 have hkp : K1 ≤ p:=by
  rcases hK with ⟨rfl,_⟩ | ⟨rfl,rfl⟩
  ·exact M.kp
  ·omega
 have hfst : ((⟨(yl j).reverse.map (za8 rr),zn2 rr xs p D K,(rr K1).st,b,l⟩ : R).put x.dst v).st = (rr K1).st:=zeX _ _ _
 have hold : ∀ i,i ≠ j → i < p → vis xs (zba D j) K1 i = vis xs D K i:=fun i hi _ => by rw [zpt hK,if_neg hi]
 have htmp : ∀ i,i ≠ j → i < p → ∀ t,zmD gops i = some t → (a.put o.dst u).tmps.getD t undef = a.tmps.getD t undef:=fun i hi hip t ht => zlU fun e =>
  zst C hnd hip hj hi ht (by unfold zmD; rw [ho]; exact e)
 refine ⟨M.ext.trans H,R1,F.size,F.df,fun q t ht => ?_,fun i t hi hvi ht => ?_,hkp,fun i hi hei => ?_,fun i hi hDi hvi => ?_,fun i i' hi hi' hDi hvi hDi' hvi' hB => ?_⟩
 ·have hf:=F.env q t ht
  rw [hfst] at hf
  have e : ((⟨(yl j).reverse.map (za8 rr),zn2 rr xs p D K,(rr K1).st,b,l⟩ : R).put x.dst v).env.getD q vun = zdO rr xs p (zba D j) K1 q:=by
   by_cases hw : writes x = some q
   ·have hd:=zqC hw
    rw [hd]
    have hq : q < (rr 0).env.length:=by rw [henv]; exact zb ht
    have hql : q < (rr j).env.length:=by rw [(zgk C.w hrr j (yu hj)).1]; exact hq
    have hwr:=zCj C.w hj hx hw
    unfold zdO
    rw [hwr]
    simp only [zpt hK,if_true]
    rw [hv,hd]
    simp [R.put,R.at,yc,zn2,hq,hql]
   ·have e1 : ((⟨(yl j).reverse.map (za8 rr),zn2 rr xs p D K,(rr K1).st,b,l⟩ : R).put x.dst v).env.getD q vun = (zn2 rr xs p D K).getD q vun:=by
     cases hd : x.dst with
     | no => rfl
     | loc => rfl
     | slot q' =>
       have hne : q' ≠ q:=fun e => hw (by rw [← e]; exact zgA hd)
       simp only [R.put,yc,List.getElem?_set_ne hne]
    rw [e1,zmh C.w hrr]
    unfold zdO
    split
    ·rename_i k hk
     obtain ⟨k1,x',k2,k3⟩:=zgb hk
     have hne : k ≠ j:=fun e => by subst e; rw [hx] at k2; injection k2 with k2; subst k2; exact hw k3
     have : zba D j k = D k:=by simp [zba,hne]
     rw [hold k hne k1,this]
    ·rfl
  rw [e] at hf
  exact hf
 ·by_cases e : i = j
  ·subst e
   have hlo : zaO o.dst x.dst = some t:=by
    unfold lo at ht
    rw [ho,hx] at ht
    exact ht
   have hd : x.dst = .loc:=by
    unfold zaO at hlo
    split at hlo
    ·rename_i h; exact h
    ·cases hlo
   have h0:=F.lc 0 t (by simp [hlo]) (by simp)
   rw [hfst] at h0
   rw [hval hd]
   rw [hd] at h0
   simpa [R.put] using h0
  ·rw [hold i e hi] at hvi
   have:=H.zf _ _ (M.done i t hi hvi ht)
   have htt : zmD gops i = some t:=by
    unfold lo at ht
    unfold zmD
    split at ht
    ·rename_i o' x' h1 h2
     rw [h1]
     unfold zaO at ht
     split at ht
     ·rename_i h3 _; injection ht with ht; subst ht; exact h3
     ·cases ht
    ·cases ht
   rw [htmp i e hi t htt]
   exact this
 ·by_cases e : i = j
  ·subst e; simp [zba]
  ·have : zba D j i = D i:=by simp [zba,e]
   rw [this]
   rcases hK with ⟨rfl,_⟩ | ⟨rfl,rfl⟩
   ·exact M.before i hi hei
   ·exact M.before i (by omega) hei
 ·have e : i ≠ j:=fun e => by subst e; rw [zpt hK,if_pos rfl] at hvi; cases hvi
  rw [hold i e hi] at hvi
  have hDi' : D i = true:=by simpa [zba,e] using hDi
  exact (M.raw i hi hDi' hvi).ext H fun t ⟨o',h1,h2⟩ => htmp i e hi t (by unfold zmD; rw [h1]; exact h2)
 ·have e : i ≠ j:=fun e => by subst e; rw [zpt hK,if_pos rfl] at hvi; cases hvi
  have e' : i' ≠ j:=fun e => by subst e; rw [zpt hK,if_pos rfl] at hvi'; cases hvi'
  rw [hold i e hi] at hvi
  rw [hold i' e' hi'] at hvi'
  exact M.inj i i' hi hi' (by simpa [zba,e] using hDi) hvi (by simpa [zba,e'] using hDi') hvi' hB
theorem zs4 (C : Chk2 P κ nt gops ps xs ms p) (hnd : κ.Nodup) (hbd : ∀ t ∈ κ,t < nt) {D : Nat → Bool} {K j : Nat} {B : Nat → Nat} {g : G} {w : World} {a : Act} {o : Go.Oper} {x : Oper}
  (M : Mid2 P gops xs κ nt p rr g0 w0 σ0 D K B g w a) (hj : j < p) (hKj : K < j) (he : eff xs j = true) (hal : zwJ x = true) (ho : gops[j]? = some o) (hx : xs[j]? = some x) {t : Tmp} (hdst : o.dst = some t)
  {sz : Nat} {es : List (List Go.A.C)} {arr : Array Value} {ty : TypeId} {kd : Mk} (hsz : arr.size = es.length * sz) (hrow : ∀ g w σ,zco g w σ arr sz es) (hkd : kd.ok sz es) (hstep : rr (j + 1) = ((rr j).at ((rr j).st ++ [.cells 0 sz es])).put x.dst (kd.v (rr j).st.length)) :
  ∃ g' B',Mid2 P gops xs κ nt p rr g0 w0 σ0 (zba D j) K B' g' (w.alloc (.cells arr ty)) (a.put o.dst (kd.u w.heap.size)):=by
 obtain ⟨h1,h2,_⟩:=zh8 hal
 obtain ⟨hod,_,hc,_⟩:=C.pre_some hj ho hx
 have htlt : t < nt ∧ (t ∈ κ → ∃ q,x.dst = .slot q ∧ κ[q]? = some t):=by
  rw [hdst] at hod
  rcases h2 with h2 | ⟨q,h2⟩
  ·rw [h2] at hod
   simp only [okD,ya,ye,decide_eq_true_eq] at hod
   exact ⟨hod.2,fun h => absurd h (by simpa using hod.1)⟩
  ·rw [h2] at hod
   simp only [okD,beq_iff_eq] at hod
   exact ⟨hbd t (yb hod),fun _ => ⟨q,h2,hod⟩⟩
 let ob : Obj:=.cells arr ty
 let g' : G:={ g with ow:=zxD g.ow w.heap.size .no }
 have H : Ext g w (rr K).st g' (w.alloc ob) (rr K).st:=by
  have:=Ext.alloc M.rel ob g' (fun _ _ => rfl) (fun _ _ _ _ => rfl) (fun b hb => zaF g.ow _ (by omega)) (fun _ _ _ => Iff.rfl) []
  simpa using this
 have R1 : Rel g' (w.alloc ob) (rr K).st:=⟨fun b i h => by rw [size_alloc]; have:=M.rel.nb b i h; omega,fun id o' h => zcV H rfl (fun _ => rfl) (fun b hb _ => ⟨heap_alloc_old w ob hb,zaF g.ow _ (by omega),fun _ h => h⟩) (M.rel.ob id o' h)⟩
 refine ⟨g',zxD B j w.heap.size,?_⟩
 have hvj : vis xs (zba D j) K j = false:=by simp [vis,zba,he]; omega
 have hold : ∀ i,i ≠ j → vis xs (zba D j) K i = vis xs D K i:=fun i hi => by simp [vis,zba,hi]
 have htmp : ∀ i,i ≠ j → i < p → ∀ t',zmD gops i = some t' → ∀ u,(a.put o.dst u).tmps.getD t' undef = a.tmps.getD t' undef:=fun i hi hip t' ht u => zlU fun e =>
  zst C hnd hip hj hi ht (by unfold zmD; rw [ho]; exact e)
 have hBold : ∀ i,i < p → D i = true → vis xs D K i = false → B i < w.heap.size:=fun i hi hDi hvi => by
  obtain ⟨⟨_,_,_,_,_,_,_,_,_,_,_,_,h7,_⟩,_⟩:=M.raw i hi hDi hvi
  exact (yh.1 h7).1
 refine ⟨M.ext.trans H,R1,by simp [Act.put,hdst,M.size],by simp [Act.put,hdst,M.df],fun q t' ht' => ?_,fun i t' hi hvi ht' => ?_,M.kp,fun i hi hei => ?_,fun i hi hDi hvi => ?_,fun i i' hi hi' hDi hvi hDi' hvi' hB => ?_⟩
 ·by_cases hw : writes x = some q
  ·have hwr:=zCj C.w hj hx hw
   unfold zdO
   rw [hwr]
   simp only [hvj,Bool.false_eq_true,if_false]
   have : zba D j j = true:=by simp [zba]
   rw [this]
   simp only [if_true,vun,zf,zw]
  ·have e1 : zdO rr xs p (zba D j) K q = zdO rr xs p D K q:=by
    unfold zdO
    split
    ·rename_i k' hk
     obtain ⟨_,x',k2,k3⟩:=zgb hk
     have hne : k' ≠ j:=fun e => by subst e; rw [hx] at k2; injection k2 with k2; subst k2; exact hw k3
     have : zba D j k' = D k':=by simp [zba,hne]
     rw [hold k' hne,this]
    ·rfl
   rw [e1]
   have e2 : o.dst ≠ some t':=fun e => by
    rw [hdst] at e
    injection e with e
    subst e
    obtain ⟨q',hq1,hq2⟩:=htlt.2 (yb ht')
    have:=ztL hnd hq2 ht'
    subst this
    exact hw (zgA hq1)
   rw [zlU e2]
   exact H.zf _ _ (M.slot q t' ht')
 ·have e : i ≠ j:=fun e => by subst e; rw [hvj] at hvi; cases hvi
  rw [hold i e] at hvi
  have htt : zmD gops i = some t':=by
   unfold lo at ht'
   unfold zmD
   split at ht'
   ·rename_i o' x' h1 h2
    rw [h1]
    unfold zaO at ht'
    split at ht'
    ·rename_i h3 _; injection ht' with ht'; subst ht'; exact h3
    ·cases ht'
   ·cases ht'
  rw [htmp i e hi t' htt]
  exact H.zf _ _ (M.done i t' hi hvi ht')
 ·have : i ≠ j:=by omega
  have h0 : zba D j i = D i:=by simp [zba,this]
  rw [h0]
  exact M.before i hi hei
 ·by_cases e : i = j
  ·subst e
   rw [zha]
   refine ⟨⟨o,x,sz,es,arr,ty,t,kd,ho,hx,hal,hdst,zbb w ob,?_,hsz,hrow,hkd,hstep⟩,zha g.ow _ _,fun o' hN => ?_,M.ext.size⟩
   ·rw [hdst]
    simp [Act.put,M.size,htlt.1]
   ·have:=M.rel.nb _ o' hN
    omega
  ·rw [hold i e] at hvi
   have hDi' : D i = true:=by simpa [zba,e] using hDi
   rw [zaF B _ e]
   exact (M.raw i hi hDi' hvi).ext H fun t' ⟨o',h1,h2⟩ => htmp i e hi t' (by unfold zmD; rw [h1]; exact h2) _
 ·by_cases e : i = j
  ·by_cases e' : i' = j
   ·rw [e,e']
   ·subst e
    rw [hold i' e'] at hvi'
    have hDq : D i' = true:=by simpa [zba,e'] using hDi'
    have:=hBold i' hi' hDq hvi'
    rw [zha,zaF B _ e'] at hB
    omega
  ·rw [hold i e] at hvi
   have hDq : D i = true:=by simpa [zba,e] using hDi
   have h1:=hBold i hi hDq hvi
   by_cases e' : i' = j
   ·subst e'
    rw [zha,zaF B _ e] at hB
    omega
   ·rw [hold i' e'] at hvi'
    rw [zaF B _ e,zaF B _ e'] at hB
    exact M.inj i i' hi hi' hDq hvi (by simpa [zba,e'] using hDi') hvi' hB
theorem zCe (C : Chk2 P κ nt gops ps xs ms p) (hrr : ∀ i x,xs[i]? = some x → step Cf (rr i) x = some (rr (i + 1))) (hnd : κ.Nodup) (hbd : ∀ t ∈ κ,t < nt) {D : Nat → Bool} {K j : Nat} {B : Nat → Nat} {g : G} {w : World} {a : Act} {o : Go.Oper} {x : Oper} {next : Act → World → Prop} {Q : Exit → Act → World → Prop} {r' : R}
  (M : Mid2 P gops xs κ nt p rr g0 w0 σ0 D K B g w a) (hj : j < p) (hKj : K < j) (he : eff xs j = true) (hal : zwJ x = true) (ho : gops[j]? = some o) (hx : xs[j]? = some x)
  (F : Fr κ (zfi gops xs j) nt g w r' a) (hget : ∀ y ∈ zeN x,r'.get y = (rr j).get y)
  (k : ∀ g' w' u B',Mid2 P gops xs κ nt p rr g0 w0 σ0 (zba D j) K B' g' w' (a.put o.dst u) → next (a.put o.dst u) w') : o.wp P a w next Q:=by
 obtain ⟨h1,h2,hop⟩:=zh8 hal
 obtain ⟨hod,_,hc,_⟩:=C.pre_some hj ho hx
 obtain ⟨t,hdst⟩ : ∃ t,o.dst = some t:=by
  cases hd : o.dst with
  | some t => exact ⟨t,rfl⟩
  | none =>
    rw [hd] at hod
    rcases h2 with h2 | ⟨q,h2⟩ <;> rw [h2] at hod <;> simp [okD] at hod
 rcases hop with ⟨zero,hop⟩ | ⟨zero,n,hop⟩
 ·have hs:=zCD hal hop (hrr j x hx)
  rw [hop] at hc
  simp only [zmf] at hc
  split at hc
  ·rename_i ty hty
   obtain ⟨zs,hz,hzc,_⟩:=zkZ hc
   obtain ⟨i,z,k1,k2,k3⟩:=zdc hz
   have hzz : z.cells = zs.toArray:=by rw [← k3]
   obtain ⟨q1,q2⟩:=zax (g:=g) (w:=w) (σ:=[]) hzc
   have hl : zs.length = zero.length:=zC q1
   obtain ⟨g',B',M'⟩:=zs4 (sz:=zero.length) (es:=[zero]) (arr:=zs.toArray) (ty:=ty) (kd:=.ptr) C hnd hbd M hj hKj he hal ho hx hdst (by simp [hl]) (fun g w σ => by
    obtain ⟨hz1,hz2⟩:=zax (g:=g) (w:=w) (σ:=σ) hzc
    exact zjY hz1 hz2) rfl hs
   refine zlR (u:=.pointer (some ⟨w.heap.size,0,none⟩)) (w':=w.alloc (.cells zs.toArray ty)) ?_ (k g' _ _ B' M')
   unfold execOp
   simp only [hty]
   simp [Instr.alloc,zc1 (w:=w) k1 k2,newVar,newRow,hzz]
  ·cases hc
 ·obtain ⟨kk,m,hv,hm0,hm1,hs⟩:=zC5 hal hop (hrr j x hx)
  have hxn:=hget n (by rw [show zeN x = opX x.op ++ _ from rfl,hop]; simp [opX])
  rw [hop] at hc
  simp only [zmf] at hc
  split at hc
  ·rename_i t' l c hoo
   simp only [ya,beq_iff_eq] at hc
   obtain ⟨⟨rfl,q1⟩,q2⟩:=hc
   split at q1
   ·rename_i e ht
    split at q1
    ·rename_i i hi
     simp only [ya,decide_eq_true_eq] at q1
     obtain ⟨⟨h3,h4⟩,h5⟩:=q1
     split at h5
     ·rename_i zs hz
      simp only [ya,beq_iff_eq] at h5
      obtain ⟨⟨h6,h7⟩,_⟩:=h5
      obtain ⟨i',z,k1,k2,k3⟩:=zdc hz
      rw [hi] at k1
      injection k1 with k1
      subst k1
      subst k3
      have hzc : z.cells.size = i.size:=by simpa using h6
      have hzl : zero.length = i.size:=by
       obtain ⟨hz1,_⟩:=zax (g:=g) (w:=w) (σ:=[]) h7
       rw [← zC hz1]
       exact h6
      have hvx:=F.get q2
      rw [hxn,hv] at hvx
      obtain ⟨ex,_⟩:=zA hvx
      have hrun : (execOp a.eval o).run P w = .ok (.value (.slice (some ⟨w.heap.size,0,none⟩) m.toNat m.toNat)) (w.alloc (.cells (madeCells z.cells (m.toNat * i.size)).toList.toArray e)):=by
       unfold execOp
       simp only [hoo,ex,Sem.run_bind,zoB (P:=P) (w:=w) ht hi k2 hm0 hm1 h3,Result.andThen_ok,Sem.run_pure]
      have hrow : ∀ g w σ,zco g w σ (madeCells z.cells (m.toNat * i.size)).toList.toArray zero.length (yj m.toNat zero):=fun g w σ => by
       obtain ⟨hz1,hz2⟩:=zax (g:=g) (w:=w) (σ:=σ) h7
       have:=zjj (g:=g) (w:=w) (σ:=σ) (es:=yj m.toNat zero) hzc h4 (fun e he => by rw [(List.mem_replicate.1 he).2]; exact hz1) hz2
       rw [List.length_replicate] at this
       rw [Array.toArray_toList,hzl]
       exact this
      obtain ⟨g',B',M'⟩:=zs4 (sz:=zero.length) (es:=yj m.toNat zero) (arr:=(madeCells z.cells (m.toNat * i.size)).toList.toArray) (ty:=e) (kd:=.own m.toNat) C hnd hbd M hj hKj he hal ho hx hdst (by simp [size_madeCells,hzl]) hrow (by simp [Mk.ok]) hs
      exact zlR hrun (k g' _ _ B' M')
     ·cases h5
    ·cases q1
   ·cases q1
  ·cases hc
end
end Go.A
namespace Go.A
theorem Value.beq_eq {a b : Value} (h : Value.beq a b = true) : a = b:=by
 unfold Value.beq at h
 split at h
 ·simp only [ya,decide_eq_true_eq] at h
  rw [h.1,h.2]
 ·simp only [beq_iff_eq] at h
  rw [h]
 ·rename_i a b
  simp only [decide_eq_true_eq] at h
  have : a = b:=by
   cases a
   cases b
   simp only [ByteArray.mk.injEq]
   exact Array.toList_inj.1 h
  rw [this]
 ·cases h
mutual
theorem Fz.beq_eq : ∀ {a b : Fz},a.beq b = true → a = b
 | .lit v,.lit u,h => by
   simp only [Fz.beq] at h
   rw [Value.beq_eq h]
 | .sl xs,.sl ys,h => by
   simp only [Fz.beq] at h
   rw [Fz.beqs_eq h]
 | .lit _,.sl _,h => by simp [Fz.beq] at h
 | .sl _,.lit _,h => by simp [Fz.beq] at h
theorem Fz.beqR_eq : ∀ {a b : List Fz},Fz.beqR a b = true → a = b
 | [],[],_ => rfl
 | x :: xs,y :: ys,h => by
   simp only [Fz.beqR,ya] at h
   rw [Fz.beq_eq h.1,Fz.beqR_eq h.2]
 | [],_ :: _,h => by simp [Fz.beqR] at h
 | _ :: _,[],h => by simp [Fz.beqR] at h
theorem Fz.beqs_eq : ∀ {a b : List (List Fz)},Fz.beqs a b = true → a = b
 | [],[],_ => rfl
 | x :: xs,y :: ys,h => by
   simp only [Fz.beqs,ya] at h
   rw [Fz.beqR_eq h.1,Fz.beqs_eq h.2]
 | [],_ :: _,h => by simp [Fz.beqs] at h
 | _ :: _,[],h => by simp [Fz.beqs] at h
end
theorem C.beq_eq {a b : C} (h : a.beq b = true) : a = b:=by
 unfold C.beq at h
 split at h
 ·rw [Fz.beq_eq h]
 ·simp only [ya,decide_eq_true_eq] at h
  obtain ⟨⟨h1,h2⟩,h3⟩:=h
  rw [h1,h2,Fz.beqs_eq h3]
 ·simp only [ya,decide_eq_true_eq] at h
  obtain ⟨⟨⟨h1,h2⟩,h3⟩,h4⟩:=h
  rw [h1,h2,h3,h4]
 ·simp only [ya,decide_eq_true_eq] at h
  rw [Fz.beqR_eq h.1,h.2]
 ·simp only [ya,decide_eq_true_eq] at h
  obtain ⟨⟨⟨h1,h2⟩,h3⟩,h4⟩:=h
  rw [h1,h2,h3,h4]
 ·simp only [decide_eq_true_eq] at h
  rw [h]
 ·cases h
theorem C.beqs_eq : ∀ {a b : List C},C.beqs a b = true → a = b
 | [],[],_ => rfl
 | x :: xs,y :: ys,h => by
   simp only [C.beqs,ya] at h
   rw [C.beq_eq h.1,C.beqs_eq h.2]
 | [],_ :: _,h => by simp [C.beqs] at h
 | _ :: _,[],h => by simp [C.beqs] at h
theorem V.beq_eq {a b : V} (h : a.beq b = true) : a = b:=by
 unfold V.beq at h
 split at h
 ·rw [C.beq_eq h]
 ·rw [C.beqs_eq h]
 ·cases h
section
variable {P : Program} {κ : List Tmp} {nt : Nat} {gops : Array Go.Oper} {ps : List (Nat × Nat)} {xs : List Oper} {ms : List Nat} {p b l : Nat} {Cf : zad} {rr : Nat → R} {g0 : G} {w0 : World} {σ0 : zd}
theorem zm3 (hrr : ∀ i x,xs[i]? = some x → step Cf (rr i) x = some (rr (i + 1))) : ∀ n,n ≤ xs.length → steps Cf (xs.take n) (rr 0) = some (rr n)
 | 0,_ => rfl
 | n + 1,h => by
   have hx : xs[n]? = some xs[n]:=yd (by omega)
   rw [List.take_add_one,hx]
   simp only [Option.toList_some]
   have ih:=zm3 hrr n (by omega)
   have app : ∀ (a b : List Oper) (r : R),steps Cf (a ++ b) r = (steps Cf a r).bind (steps Cf b):=by
    intro a
    induction a with
    | nil => intro b r; rfl
    | cons x a iha =>
      intro b r
      simp only [List.cons_append,steps]
      cases hq : step Cf r x with
      | none => rfl
      | some r1 => simp only [yn]; exact iha b r1
   rw [app,ih]
   simp only [yn,steps,hrr n _ hx]
theorem zsT (c : zad) : LeC zvT c:=fun _ _ _ r h => by cases h
theorem zCX {ops : List Oper} {r : R} {j k : Nat} (hrr : ∀ i x,ops[i]? = some x → step Cf (rr i) x = some (rr (i + 1))) (h0 : rr 0 = r) (hk : k ≤ ops.length) (h : zc5 Cf ops r (j,k) = true) {x : Oper} (hx : ops[j]? = some x) (hc : zaS x.op ≤ 2) (hl : zw9 x.dst = true) (hn : zFQ x.op = true) :
  ∃ v,rr (j + 1) = (rr j).put x.dst v ∧ ∃ q,step Cf ((rr j).at (rr k).st) x = some q ∧ q = ((rr j).at (rr k).st).put x.dst v:=by
 unfold zc5 at h
 subst h0
 have hj:=zb hx
 simp only [zm3 hrr j (by omega),zm3 hrr k hk,hx] at h
 have hd : x.dst = .loc:=by
  cases hq : x.dst with
  | loc => rfl
  | no => rw [hq] at hl; simp [zw9] at hl
  | slot q => rw [hq] at hl; simp [zw9] at hl
 have quiet : ∀ (r q : R),step Cf r x = some q → ∃ v,q = r.put x.dst v:=fun r q hq => by
  obtain ⟨n,hn⟩:=exX r.get (zeN x)
  obtain ⟨v,h1,_⟩:=zfK (r':=r) (n:=n) hc (fun _ _ => rfl) (hn n (yt _)) (fun _ => ⟨fun id ver sz o _ ho hr => ⟨o,ho,hr⟩⟩) (fun _ => ⟨fun id o _ ho => ho⟩) hq
  exact ⟨v,h1⟩
 unfold zui at h
 split at h
 ·rename_i qa qb ha hb
  have ha':=zl5 (zsT Cf) _ _ _ ha
  have hb':=zl5 (zsT Cf) _ _ _ hb
  have hb2:=hrr j x hx
  rw [hb2] at hb'
  injection hb' with hb'
  obtain ⟨v,hv⟩:=quiet _ _ ha'
  obtain ⟨v',hv'⟩:=quiet _ _ hb2
  have e:=V.beq_eq h
  rw [hv,← hb',hv',hd] at e
  have e2 : v = v':=by simpa [R.put] using e
  subst e2
  exact ⟨v,hv',qa,ha',hv⟩
 ·cases h
theorem zwp (S : zgQ P Cf) (C : Chk2 P κ nt gops ps xs ms p) (hrr : ∀ i x,xs[i]? = some x → step Cf (rr i) x = some (rr (i + 1))) (hps : ∀ q ∈ ps,zc5 Cf xs (rr 0) q = true) {D : Nat → Bool} {K j : Nat} {B : Nat → Nat} {g : G} {w : World} {a : Act} {x : Oper}
  (hcl : zhp gops D) (hE : ∀ i ∈ zas gops j,D i = true) (hDj : D j = false) (hS : zyn xs p D K) (M : Mid2 P gops xs κ nt p rr g0 w0 σ0 D K B g w a) (hj : j < p) (hx : xs[j]? = some x) (hc : zaS x.op ≤ 2) {r' : R} (hst : r'.st = (rr K).st)
  (hget : ∀ y ∈ zeN x,r'.get y = (rr j).get y) (hlt : ∀ y ∈ zeN x,((rr j).get y).lt (rr K).st.length = true) :
  ∃ v,rr (j + 1) = (rr j).put x.dst v ∧ step Cf r' x = some (r'.put x.dst v):=by
 have hjl : j < gops.size:=yg hj C.p_le
 have hA : ∀ i,Reach gops j i → D i = true:=fun i h => za1 hcl h hE
 have hB : ∀ i,Reach gops i j → D i = false:=fun i h => by
  cases hi : D i with
  | false => rfl
  | true =>
    have:=za1 hcl h (hcl i hi)
    rw [hDj] at this
    cases this
 have hread:=(C.pre_some hj (yf hjl) hx).2.2.2.2.2
 unfold zuK at hread
 simp only [ym,beq_iff_eq,decide_eq_true_eq] at hread
 have hKl : K ≤ xs.length:=Nat.le_trans M.kp C.w.le
 rcases hread with (h | h) | h
 ·exact zfK (r':=r') (n:=(rr K).st.length) hc hget hlt (fun e => by omega) (fun e => by omega) (hrr j x hx)
 ·omega
 ·have:=yr.1 h K (by have:=M.kp; simp; omega)
  simp only [ym,ye,Bool.or_eq_false_iff,ya] at this
  rcases this with ((h | h) | h) | ⟨⟨h1,h2⟩,h3⟩
  ·
   rcases hS with hS | ⟨hS,_⟩
   ·simp [hS] at h
   ·rw [hS] at h; simp at h
  ·
   exfalso
   unfold zEx at h
   simp only [yk,yo,ya,decide_eq_true_eq] at h
   rcases h with ⟨h1,h2⟩ | h
   ·have:=hA K (zeR C.masks j hjl h2)
    rcases hS with hS | ⟨_,hS⟩
    ·omega
    ·rw [hS] at this; cases this
   ·rw [List.all_eq_false] at h
    obtain ⟨e,he,h⟩:=h
    simp only [ye,yp,ya,yq,yo] at h
    have hek : e < K:=by simpa using he
    have hel : e < gops.size:=by have:=M.kp; have:=C.p_le; omega
    have:=hB e (zeR C.masks e hel h.2)
    rw [M.before e hek h.1] at this
    cases this
  ·
   have hcls : ∀ i,min j K ≤ i → i < max j K → cls xs i ≤ 2 ∨ cls xs i = 4 ∨ (zaS x.op = 1 ∧ cls xs i ≤ 4):=fun i h1 h2 => by
    have:=yr.1 h i (by have:=M.kp; simp; omega)
    simp only [ym,ye,ya,decide_eq_true_eq,beq_iff_eq,yk,decide_eq_false_iff_not] at this
    rcases this with ((h | h) | h) | h
    ·unfold eff at h
     simp only [decide_eq_false_iff_not] at h
     exact .inl (by omega)
    ·omega
    ·exact .inr (.inl h)
    ·exact .inr (.inr h)
   rcases Nat.le_total K j with hKj | hKj
   ·obtain ⟨n,hn⟩ : ∃ n,j = K + n:=⟨j - K,by omega⟩
    have hjx:=zb hx
    refine zfK (r':=r') (n:=(rr K).st.length) hc hget hlt (fun hc1 => ?_) (fun hc2 => ?_) (hrr j x hx)
    ·rw [hst,hn]
     exact (zmb hrr n (by omega) fun i h1 h2 => by
      rcases hcls i (by omega) (by omega) with h | h | h
      ·omega
      ·omega
      ·exact h.2).2.2 _ (yt _)
    ·obtain ⟨os,hos⟩:=zmt hrr (a:=K) n (by omega) fun i h1 h2 => by
      rcases hcls i (by omega) (by omega) with h | h | h
      ·exact .inl h
      ·exact .inr h
      ·omega
     rw [hst,hn,hos]
     exact ⟨fun id o hid ho => by rw [yi hid] at ho; exact ho⟩
   ·obtain ⟨n,hn⟩ : ∃ n,K = j + n:=⟨K - j,by omega⟩
    refine zfK (r':=r') (n:=(rr K).st.length) hc hget hlt (fun hc1 => ?_) (fun hc2 => ?_) (hrr j x hx)
    ·rw [hst,hn]
     exact (zmb hrr n (by omega) fun i h1 h2 => by
      rcases hcls i (by omega) (by omega) with h | h | h
      ·omega
      ·omega
      ·exact h.2).2.1 _
    ·obtain ⟨os,hos⟩:=zmt hrr (a:=j) n (by omega) fun i h1 h2 => by
      rcases hcls i (by omega) (by omega) with h | h | h
      ·exact .inl h
      ·exact .inr h
      ·omega
     rw [hst,hn,hos]
     exact ⟨fun id o _ ho => by rw [yi (zb ho)]; exact ho⟩
  ·
   obtain ⟨v,q1,q,q2,q3⟩:=zCX hrr rfl hKl (hps (j,K) (by simpa using h1)) hx hc h2 h3
   refine ⟨v,q1,?_⟩
   rw [q3] at q2
   obtain ⟨n,hn⟩:=exX ((rr j).at (rr K).st).get (zeN x)
   have hge : ∀ y,((rr j).at (rr K).st).get y = (rr j).get y:=fun y => by cases y <;> rfl
   obtain ⟨v',e1,e2⟩:=zfK (r':=r') (n:=n) hc (fun y hy => by rw [hge]; exact hget y hy) (hn n (yt _)) (fun _ => by rw [hst]; exact ⟨fun id ver sz o _ ho hr => ⟨o,ho,hr⟩⟩) (fun _ => by rw [hst]; exact ⟨fun id o _ ho => ho⟩) q2
   have hd : x.dst = .loc:=by
    cases hq : x.dst with
    | loc => rfl
    | no => rw [hq] at h2; simp [zw9] at h2
    | slot q => rw [hq] at h2; simp [zw9] at h2
   rw [hd] at e1
   have : v = v':=by simpa [R.put] using congrArg (fun r => r.rs.headD vun) e1
   subst this
   exact e2
end
end Go.A

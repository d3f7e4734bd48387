/- A part of the proof of SchedDepth. Conditions: none. -/
import Derived.Test.YtmkncmffaaninaaGreatDAL
set_option linter.unusedVariables false
set_option linter.unusedSimpArgs false
set_option linter.unusedSectionVars false
open List renaming getElem?_eq_getElem → ya,getElem?_append_left → yb,getD_eq_getElem?_getD → yc,getElem?_eq_none → ye,all_eq_true → yf,range → yg,getElem?_map → yn,getElem?_range → yo,map_congr_left → yp,ext_getElem? → yr
open Bool renaming and_eq_true → yd,or_eq_true → yi
open Nat renaming le_refl → yh,lt_or_ge → yk,add_assoc → ym,lt_trichotomy → yq
open Array renaming getElem?_eq_some_iff → yj,replicate → yl
open Option renaming map_some → ys
namespace Go.A
theorem zok {g : G} {w : World} {σ : zd} : ∀ (v : V) (u : Value),zf g w σ v u → v.lt σ.length = true
 | .one c,u,h => by
   simp only [zf] at h
   simp only [V.lt]
   exact zmB c u h
 | .agg cs,u,h => by
   simp only [zf] at h
   obtain ⟨us,_,h2⟩:=h
   simp only [V.lt]
   exact zn8 cs _ h2
 | .tup vs,u,h => by
   simp only [zf] at h
   obtain ⟨us,_,h2⟩:=h
   simp only [V.lt]
   exact go vs _ h2
 where go : ∀ (vs : List V) (us : List Value),zz g w σ vs us → V.lts σ.length vs = true
 | [],_,_ => rfl
 | v :: vs,us,h => by
   simp only [zz] at h
   obtain ⟨x,xs,_,h1,h2⟩:=h
   simp only [V.lts,yd]
   exact ⟨zok v x h1,go vs xs h2⟩
mutual
theorem C.lt_mono {n m : Nat} (h : n ≤ m) : ∀ c : C,c.lt n = true → c.lt m = true
 | .f _,_ => by simp [C.lt]
 | .ap t _ _,hc => by simp [C.lt] at hc ⊢; omega
 | .ptr id _ _ _,hc => by simp [C.lt] at hc ⊢; omega
 | .fp _ _,_ => by simp [C.lt]
 | .own id _ _ _,hc => by simp [C.lt] at hc ⊢; omega
 | .map id,hc => by simp [C.lt] at hc ⊢; omega
 | .fn _ a b,hc => by
   simp only [C.lt,yd] at hc ⊢
   exact ⟨C.lts_mono h a hc.1,C.lts_mono h b hc.2⟩
 | .un,_ => by simp [C.lt]
theorem C.lts_mono {n m : Nat} (h : n ≤ m) : ∀ cs : List C,C.lts n cs = true → C.lts m cs = true
 | [],_ => rfl
 | c :: cs,hc => by
   simp only [C.lts,yd] at hc ⊢
   exact ⟨C.lt_mono h c hc.1,C.lts_mono h cs hc.2⟩
end
mutual
theorem V.lt_mono {n m : Nat} (h : n ≤ m) : ∀ c : V,c.lt n = true → c.lt m = true
 | .one c,hc => by
   simp only [V.lt] at hc ⊢
   exact C.lt_mono h c hc
 | .agg cs,hc => by
   simp only [V.lt] at hc ⊢
   exact C.lts_mono h cs hc
 | .tup vs,hc => by
   simp only [V.lt] at hc ⊢
   exact V.lts_mono h vs hc
theorem V.lts_mono {n m : Nat} (h : n ≤ m) : ∀ cs : List V,V.lts n cs = true → V.lts m cs = true
 | [],_ => rfl
 | c :: cs,hc => by
   simp only [V.lts,yd] at hc ⊢
   exact ⟨V.lt_mono h c hc.1,V.lts_mono h cs hc.2⟩
end
theorem zrf {c c' : Nat} (h : free c c' = true) : c ≤ 2 ∨ c' ≤ 2:=by
 unfold free at h
 simp only [yi,yd,beq_iff_eq,decide_eq_true_eq] at h
 omega
theorem zvK {c : Nat} (h : free 2 c = true ∨ free c 2 = true) : c ≤ 2 ∨ c = 4:=by
 unfold free at h
 simp only [yi,yd,beq_iff_eq,decide_eq_true_eq] at h
 omega
theorem zvL {c : Nat} (h : free 1 c = true ∨ free c 1 = true) : c ≤ 4:=by
 unfold free at h
 simp only [yi,yd,beq_iff_eq,decide_eq_true_eq] at h
 omega
section
variable {P : Program} {κ : List Tmp} {nt : Nat} {gops : Array Go.Oper} {xs : List Oper} {ms : List Nat} {p b l : Nat} {Cf : zad} {rr : Nat → R}
theorem zAi (hrr : ∀ i x,xs[i]? = some x → step Cf (rr i) x = some (rr (i + 1))) {j : Nat} {x : Oper} (hx : xs[j]? = some x) : zzD (zaS x.op) (rr j).st (rr (j + 1)).st:=by
 obtain ⟨v,σ1,h1,h2⟩:=zmr hrr hx
 rw [h1,zeX]
 exact h2
theorem zhk {j : Nat} {x : Oper} (hx : xs[j]? = some x) : cls xs j = zaS x.op:=by unfold cls; rw [hx]
theorem zn9 (hrr : ∀ i x,xs[i]? = some x → step Cf (rr i) x = some (rr (i + 1))) {a : Nat} : ∀ n,a + n ≤ xs.length → (∀ k,a ≤ k → k < a + n → ¬ 3 ≤ cls xs k) → (rr (a + n)).st = (rr a).st
 | 0,_,_ => rfl
 | n + 1,hn,h => by
   have ih:=zn9 hrr n (by omega) fun k h1 h2 => h k h1 (by omega)
   have hx : xs[a + n]? = some (xs[a + n]'(by omega)):=ya (by omega)
   have hc:=h (a + n) (by omega) (by omega)
   rw [zhk hx] at hc
   rcases zAi hrr hx with e | e
   ·rw [← ym,e,ih]
   ·rw [← ym,e.1 (by omega),ih]
theorem zmt (hrr : ∀ i x,xs[i]? = some x → step Cf (rr i) x = some (rr (i + 1))) {a : Nat} : ∀ n,a + n ≤ xs.length → (∀ k,a ≤ k → k < a + n → cls xs k ≤ 2 ∨ cls xs k = 4) → ∃ os,(rr (a + n)).st = (rr a).st ++ os
 | 0,_,_ => ⟨[],by simp⟩
 | n + 1,hn,h => by
   obtain ⟨os,ih⟩:=zmt hrr n (by omega) fun k h1 h2 => h k h1 (by omega)
   have hx : xs[a + n]? = some (xs[a + n]'(by omega)):=ya (by omega)
   have hc:=h (a + n) (by omega) (by omega)
   rw [zhk hx] at hc
   rw [← ym]
   rcases zAi hrr hx with e | e
   ·exact ⟨os,by rw [e,ih]⟩
   ·rcases hc with hc | hc
    ·exact ⟨os,by rw [e.1 hc,ih]⟩
    ·obtain ⟨os',e'⟩:=e.2.2 hc
     exact ⟨os ++ os',by rw [e',ih,List.append_assoc]⟩
theorem zmb (hrr : ∀ i x,xs[i]? = some x → step Cf (rr i) x = some (rr (i + 1))) {a : Nat} : ∀ n,a + n ≤ xs.length → (∀ k,a ≤ k → k < a + n → cls xs k ≤ 4) →
  (rr a).st.length ≤ (rr (a + n)).st.length ∧ (∀ q,SameRow q (rr a).st (rr (a + n)).st) ∧ ∀ q,q ≤ (rr a).st.length → SameRow q (rr (a + n)).st (rr a).st
 | 0,_,_ => ⟨yh _,fun q => ⟨fun id ver sz o _ ho hr => ⟨o,ho,hr⟩⟩,fun q _ => ⟨fun id ver sz o _ ho hr => ⟨o,ho,hr⟩⟩⟩
 | n + 1,hn,h => by
   obtain ⟨ih0,ih1,ih2⟩:=zmb hrr n (by omega) fun k h1 h2 => h k h1 (by omega)
   have hx : xs[a + n]? = some (xs[a + n]'(by omega)):=ya (by omega)
   have hc:=h (a + n) (by omega) (by omega)
   rw [zhk hx] at hc
   rw [← ym]
   have key : (rr (a + n)).st.length ≤ (rr (a + n + 1)).st.length ∧ (∀ q,SameRow q (rr (a + n)).st (rr (a + n + 1)).st) ∧ ∀ q,q ≤ (rr (a + n)).st.length → SameRow q (rr (a + n + 1)).st (rr (a + n)).st:=by
    have same : (rr (a + n + 1)).st = (rr (a + n)).st → (rr (a + n)).st.length ≤ (rr (a + n + 1)).st.length ∧ (∀ q,SameRow q (rr (a + n)).st (rr (a + n + 1)).st) ∧ ∀ q,q ≤ (rr (a + n)).st.length → SameRow q (rr (a + n + 1)).st (rr (a + n)).st:=fun e => by
     rw [e]
     exact ⟨yh _,fun q => ⟨fun id ver sz o _ ho hr => ⟨o,ho,hr⟩⟩,fun q _ => ⟨fun id ver sz o _ ho hr => ⟨o,ho,hr⟩⟩⟩
    rcases zAi hrr hx with e | e
    ·exact same e
    ·rcases yk (zaS (xs[a + n]'(by omega)).op) 3 with h3 | h3
     ·exact same (e.1 (by omega))
     ·rcases yk (zaS (xs[a + n]'(by omega)).op) 4 with h4 | h4
      ·obtain ⟨q1,q2⟩:=e.2.1 (by omega)
       exact ⟨by omega,fun q => (q2 q).1,fun q _ => (q2 q).2⟩
      ·obtain ⟨os,e'⟩:=e.2.2 (by omega)
       rw [e']
       refine ⟨by simp,fun q => ⟨fun id ver sz o _ ho hr => ⟨o,by rw [yb (zb ho)]; exact ho,hr⟩⟩,fun q hq => ⟨fun id ver sz o hid ho hr => ⟨o,?_,hr⟩⟩⟩
       rw [yb (by omega)] at ho
       exact ho
   refine ⟨by omega,fun q => ⟨fun id ver sz o hid ho hr => ?_⟩,fun q hq => ⟨fun id ver sz o hid ho hr => ?_⟩⟩
   ·obtain ⟨o1,q1,q2⟩:=(ih1 q).row id ver sz o hid ho hr
    exact (key.2.1 q).row id ver sz o1 hid q1 q2
   ·obtain ⟨o1,q1,q2⟩:=(key.2.2 q (by omega)).row id ver sz o hid ho hr
    exact (ih2 q hq).row id ver sz o1 hid q1 q2
theorem zoT {D : Nat → Bool} {j : Nat} (hq : ¬ 3 ≤ cls xs j) : ∀ n,zeG xs (zba D j) n = zeG xs D n
 | 0 => rfl
 | n + 1 => by
   simp only [zeG,zoT hq n]
   by_cases h : n = j
   ·subst h
    simp [hq]
   ·simp [zba,h]
theorem ztI {D : Nat → Bool} {j : Nat} (hj : 3 ≤ cls xs j) : ∀ n,j < n → (∀ k,j < k → k < n → ¬ (D k = true ∧ 3 ≤ cls xs k)) → zeG xs (zba D j) n = j + 1
 | 0,h,_ => by omega
 | n + 1,h,hno => by
   simp only [zeG]
   by_cases e : n = j
   ·subst e
    simp [zba,hj]
   ·have hne:=hno n (by omega) (by omega)
    have hu : zba D j n = D n:=by simp [zba,e]
    rw [hu,if_neg (by simpa using fun a => by simpa [a] using hne)]
    exact ztI hj n (by omega) fun k h1 h2 => hno k h1 (by omega)
theorem zpA (C : ChkW xs p) (hrr : ∀ i x,xs[i]? = some x → step Cf (rr i) x = some (rr (i + 1))) {D : Nat → Bool} {j : Nat} {x : Oper} (hj : j < p) (hx : xs[j]? = some x) {v : V} {σ1 : zd} (hv : rr (j + 1) = ((rr j).at σ1).put x.dst v) :
  zdP rr xs p (zba D j) = match x.dst with
   | .slot t => (zdP rr xs p D).set t v
   | _ => zdP rr xs p D:=by
 have hother : ∀ q,writes x ≠ some q → zgU rr xs p (zba D j) q = zgU rr xs p D q:=fun q hq => by
  unfold zgU
  split
  ·rename_i k hk
   obtain ⟨_,x',h2,h3⟩:=zgb hk
   have hne : k ≠ j:=fun e => by subst e; rw [hx] at h2; injection h2 with h2; subst h2; exact hq h3
   have : zba D j k = D k:=by simp [zba,hne]
   rw [this]
  ·rfl
 obtain ⟨d,op,gd⟩:=x
 cases d with
 | slot t =>
   have hw : writes ⟨.slot t,op,gd⟩ = some t:=rfl
   have hwr:=zCj C hj hx hw
   refine yr fun q => ?_
   rw [List.getElem?_set]
   by_cases hq : q < (rr 0).env.length
   ·by_cases e : t = q
    ·subst e
     rw [if_pos rfl,if_pos (by simpa [zdP] using hq)]
     unfold zdP
     rw [yn,yo hq]
     simp only [ys]
     unfold zgU
     rw [hwr]
     have h1 : zba D j j = true:=by simp [zba]
     simp only [h1,if_true]
     rw [hv]
     have hl:=(zgk C hrr j (by omega)).1
     simp [R.put,R.at,yc,hl,hq]
    ·rw [if_neg e]
     unfold zdP
     rw [yn,yn,yo hq]
     simp only [ys]
     rw [hother q (by rw [hw]; simpa using e)]
   ·have h1 : (zdP rr xs p (zba D j))[q]? = none:=ye (by simp [zdP]; omega)
    have h2 : (zdP rr xs p D)[q]? = none:=ye (by simp [zdP]; omega)
    rw [h1]
    split
    ·rw [if_neg (by simp [zdP]; omega)]
    ·exact h2.symm
 | no => exact yp fun q _ => hother q (by simp [writes])
 | loc => exact yp fun q _ => hother q (by simp [writes])
theorem zAy (S : zgQ P Cf) (C : Chk P κ nt gops xs ms p) (hrr : ∀ i x,xs[i]? = some x → step Cf (rr i) x = some (rr (i + 1))) (h0 : (rr 0).rs = []) : Local P κ nt gops xs (za8 rr) (zdP rr xs p) (zpH rr xs p) p b l:=by
 intro j o x D g w a next Q hj ho hx hDj hE hcl hDp R0 F k
 have hpN : p ≤ xs.length:=by rw [C.len]; exact C.p_le
 obtain ⟨c1,c2,c3,c4,_⟩:=zli (C.pre j hj) ho hx
 have hA : ∀ i,Reach gops j i → D i = true:=fun i h => za1 hcl h hE
 have hB : ∀ i,Reach gops i j → D i = false:=fun i h => by
  cases hi : D i with
  | false => rfl
  | true =>
    have:=za1 hcl h (hcl i hi)
    rw [hDj] at this
    cases this
 let r' : R:=⟨(yg j).reverse.map (za8 rr),zdP rr xs p D,zpH rr xs p D,b,l⟩
 have hrs:=znh hrr h0 j (by omega)
 obtain ⟨_,henv⟩:=zgk C.w hrr j (Nat.le_of_lt hj)
 have hget : ∀ y ∈ zeN x,r'.get y = (rr j).get y:=fun y hy => by
  cases y with
  | l d => show ((yg j).reverse.map (za8 rr)).getD d vun = (rr j).rs.getD d vun; rw [hrs]
  | c v => rfl
  | s q =>
    show (zdP rr xs p D).getD q vun = (rr j).env.getD q vun
    rw [zgC C.w hrr,henv]
    unfold zgU
    split
    ·rename_i i hi
     obtain ⟨hip,x',hx',hw⟩:=zgb hi
     have hread : zfv q x = true:=by
      unfold zfv
      rw [List.any_eq_true]
      exact ⟨_,hy,by simp⟩
     have : D i = decide (i < j):=by
      rcases yq i j with hlt | rfl | hlt
      ·rcases (C.pair hlt hj hx' hx).1 with h | h
       ·exfalso
        have:=h.2
        unfold zgh at this
        rw [hw] at this
        simp [hread] at this
       ·rw [hA i h]; simp [hlt]
      ·rw [hDj]; simp
      ·rcases (C.pair hlt hip hx hx').1 with h | h
       ·exfalso
        have:=h.2
        unfold zgh at this
        rw [hw] at this
        simp [hread] at this
       ·rw [hB i h]; simp; omega
     simp only [this]
    ·rfl
 have hlt : ∀ y ∈ zeN x,((rr j).get y).lt (zpH rr xs p D).length = true:=fun y hy => by
  rw [← hget y hy]
  have hu:=c4 y hy
  cases y with
  | l d =>
    simp only [zwI] at hu
    split at hu
    ·rename_i t ht
     exact zok _ _ (F.lc d t ht hu)
    ·cases hu
  | s q =>
    by_cases hq : q < κ.length
    ·exact zok _ _ (F.env q _ (ya hq))
    ·have hl:=F.len
     have : r'.get (.s q) = vun:=by
      show (zdP rr xs p D).getD q vun = vun
      rw [yc,ye (by simp only at hl; omega)]
      rfl
     rw [this]
     rfl
  | c v => exact V.lt_mono (Nat.zero_le _) v hu
 have finish : ∀ {v : V} {σ1 : zd},rr (j + 1) = ((rr j).at σ1).put x.dst v → zpH rr xs p (zba D j) = σ1 → (r'.at σ1).put x.dst v = ⟨za8 rr j :: (yg j).reverse.map (za8 rr),zdP rr xs p (zba D j),zpH rr xs p (zba D j),b,l⟩:=fun {v σ1} h1 h2 => by
  have he:=zpA C.w hrr (D:=D) hj hx h1
  have hval : za8 rr j = (((rr j).at σ1).put x.dst v).rs.headD vun:=by unfold za8; rw [h1]
  rw [he,h2,hval]
  cases x.dst <;> rfl
 by_cases hc : zaS x.op ≤ 2
 ·
  have hst : (zaS x.op = 1 → SameRow (zpH rr xs p D).length (rr j).st r'.st) ∧ (zaS x.op = 2 → Same (zpH rr xs p D).length (rr j).st r'.st):=by
   show (zaS x.op = 1 → SameRow (zpH rr xs p D).length (rr j).st (zpH rr xs p D)) ∧ (zaS x.op = 2 → Same (zpH rr xs p D).length (rr j).st (zpH rr xs p D))
   unfold zpH
   have hmp:=zod (xs:=xs) D p
   rcases yk j (zeG xs D p) with hm | hm
   ·
    rcases zob (xs:=xs) D p with h | ⟨e,he,hDe,hce⟩
    ·omega
    ·have hclass : ∀ i,j ≤ i → i < zeG xs D p → cls xs i ≤ 2 ∨ (free (zaS x.op) (cls xs i) = true):=fun i h1 h2 => by
      rcases yk (cls xs i) 3 with h | h
      ·exact .inl (by omega)
      ·have hij : j ≠ i:=fun e' => by subst e'; rw [zhk hx] at h; omega
       have hxi : xs[i]? = some (xs[i]'(by omega)):=ya (by omega)
       have hDi : D i = true:=by
        rcases yk i e with hie | hie
        ·have hxe : xs[e]? = some (xs[e]'(by omega)):=ya (by omega)
         rcases (C.pair hie (by omega) hxi hxe).1 with hf | hr
         ·have:=zrf hf.1
          rw [zhk hxi] at h
          rw [zhk hxe] at hce
          omega
         ·exact za1 hcl hr (hcl e hDe)
        ·have : i = e:=by omega
         rw [this]; exact hDe
       rcases (C.pair (by omega : j < i) (by omega) hx hxi).1 with hf | hr
       ·exact .inr (by rw [zhk hxi]; exact hf.1)
       ·have:=hB i hr
        rw [hDi] at this
        cases this
     obtain ⟨n,hn⟩ : ∃ n,zeG xs D p = j + n:=⟨zeG xs D p - j,by omega⟩
     rw [hn]
     refine ⟨fun hc1 => (zmb hrr n (by omega) fun i h1 h2 => ?_).2.1 _,fun hc2 => ?_⟩
     ·rcases hclass i h1 (by omega) with h | h
      ·omega
      ·exact zvL (.inl (by rw [← hc1]; exact h))
     ·obtain ⟨os,hos⟩:=zmt hrr (a:=j) n (by omega) fun i h1 h2 => by
       rcases hclass i h1 (by omega) with h | h
       ·exact .inl h
       ·exact zvK (.inl (by rw [← hc2]; exact h))
      rw [hos]
      exact ⟨fun id o _ ho => by rw [yb (zb ho)]; exact ho⟩
   ·
    have hclass : ∀ i,zeG xs D p ≤ i → i < j → cls xs i ≤ 2 ∨ free (cls xs i) (zaS x.op) = true:=fun i h1 h2 => by
     rcases yk (cls xs i) 3 with h | h
     ·exact .inl (by omega)
     ·have hxi : xs[i]? = some (xs[i]'(by omega)):=ya (by omega)
      have hno:=zgR (xs:=xs) D p i h1 (by omega)
      rcases (C.pair h2 hj hxi hx).1 with hf | hr
      ·exact .inr (by rw [zhk hxi]; exact hf.1)
      ·exact absurd ⟨hA i hr,h⟩ hno
    obtain ⟨n,hn⟩ : ∃ n,j = zeG xs D p + n:=⟨j - zeG xs D p,by omega⟩
    have e1 : (rr j).st = (rr (zeG xs D p + n)).st:=by rw [← hn]
    rw [e1]
    refine ⟨fun hc1 => (zmb hrr n (by omega) fun i h1 h2 => ?_).2.2 _ (yh _),fun hc2 => ?_⟩
    ·rcases hclass i h1 (by omega) with h | h
     ·omega
     ·exact zvL (.inr (by rw [← hc1]; exact h))
    ·obtain ⟨os,hos⟩:=zmt hrr (a:=zeG xs D p) n (by omega) fun i h1 h2 => by
      rcases hclass i h1 (by omega) with h | h
      ·exact .inl h
      ·exact zvK (.inr (by rw [← hc2]; exact h))
     rw [hos]
     exact ⟨fun id o hid ho => by rw [yb hid] at ho; exact ho⟩
  obtain ⟨v,h1,h2⟩:=zfK (r':=r') hc hget hlt hst.1 hst.2 (hrr j x hx)
  have hq : ¬ 3 ≤ cls xs j:=by rw [zhk hx]; omega
  have hsame : zpH rr xs p (zba D j) = zpH rr xs p D:=by unfold zpH; rw [zoT hq]
  have hfin : r'.put x.dst v = ⟨za8 rr j :: (yg j).reverse.map (za8 rr),zdP rr xs p (zba D j),zpH rr xs p (zba D j),b,l⟩:=by
   have he:=zpA C.w hrr (D:=D) (σ1:=(rr j).st) hj hx (by rw [h1]; rfl)
   have hval : za8 rr j = ((rr j).put x.dst v).rs.headD vun:=by unfold za8; rw [h1]
   rw [he,hsame,hval]
   cases x.dst <;> rfl
  rw [hfin] at h2
  exact zeu (r:=r') S R0 F c1 c2 c3 h2 (fun g' w' u H R1 _ F1 => k g' w' u H R1 F1) (fun _ h => h)
 ·
  have heff : 3 ≤ cls xs j:=by rw [zhk hx]; omega
  have hmp:=zod (xs:=xs) D p
  have hmj : zeG xs D p ≤ j:=by
   rcases zob (xs:=xs) D p with h | ⟨e,he,hDe,hce⟩
   ·omega
   ·rcases yq e j with h | h | h
    ·omega
    ·rw [h,hDj] at hDe; cases hDe
    ·have hxe : xs[e]? = some (xs[e]'(by omega)):=ya (by omega)
     rcases (C.pair h (by omega) hx hxe).1 with hf | hr
     ·have:=zrf hf.1
      rw [zhk hxe] at hce
      omega
     ·have:=hB e hr
      rw [hDe] at this
      cases this
  have hno : ∀ i,zeG xs D p ≤ i → i < j → ¬ 3 ≤ cls xs i:=fun i h1 h2 h => by
   have hxi : xs[i]? = some (xs[i]'(by omega)):=ya (by omega)
   have hn:=zgR (xs:=xs) D p i h1 (by omega)
   rcases (C.pair h2 hj hxi hx).1 with hf | hr
   ·have:=zrf hf.1
    rw [zhk hxi] at h
    omega
   ·exact hn ⟨hA i hr,h⟩
  have hst : r'.st = (rr j).st:=by
   show (rr (zeG xs D p)).st = (rr j).st
   obtain ⟨n,hn⟩ : ∃ n,j = zeG xs D p + n:=⟨j - zeG xs D p,by omega⟩
   have:=zn9 hrr (a:=zeG xs D p) n (by omega) fun i h1 h2 => hno i h1 (by omega)
   rw [← hn] at this
   exact this.symm
  obtain ⟨v,σ1,h1,h2,_⟩:=zrk (r':=r') hget hst (hrr j x hx)
  have hlast : zeG xs (zba D j) p = j + 1:=ztI heff p hj fun i h3 h4 h5 => by
   have:=zgR (xs:=xs) D p i (by omega) h4
   exact this h5
  have hnew : zpH rr xs p (zba D j) = σ1:=by
   unfold zpH
   rw [hlast,h1,zeX]
   rfl
  rw [finish h1 hnew] at h2
  exact zeu (r:=r') S R0 F c1 c2 c3 h2 (fun g' w' u H R1 _ F1 => k g' w' u H R1 F1) (fun _ h => h)
theorem zCM (hm : P.follows .mixedOrders = true) (Cf : zad) (S : zgQ P Cf) (κ : List Tmp) (nt id : Nat) (gops : Array Go.Oper) (xs : List Oper) (hchk : zq6 P κ nt gops xs = true) (r r1 : R) (hr0 : r.rs = []) (hsteps : steps Cf xs r = some r1) : zzV P κ nt id gops r r1:=by
 intro g w a Q R0 F hend
 obtain ⟨ms,p,C⟩:=zD0 hchk
 obtain ⟨rr,k1,k2,hrr⟩:=zly xs r r1 hsteps
 have h0 : (rr 0).rs = []:=by rw [k1]; exact hr0
 have hpN : p ≤ xs.length:=by rw [C.len]; exact C.p_le
 refine wp_region_any hm ?_
 obtain ⟨D1,D2⟩:=drawn R0 1
 have hDof : ∀ i,Dof (yl gops.size false) i = false:=fun i => by
  unfold Dof
  rw [Array.getD_eq_getD_getElem?,Array.getElem?_replicate]
  split <;> rfl
 have hst0 : zpH rr xs p (Dof (yl gops.size false)) = r.st:=by
  unfold zpH
  rcases zob (xs:=xs) (Dof (yl gops.size false)) p with h | ⟨e,_,h,_⟩
  ·rw [h,k1]
  ·rw [hDof] at h; cases h
 have henv0 : ∀ q,(zdP rr xs p (Dof (yl gops.size false))).getD q vun = r.env.getD q vun:=fun q => by
  rw [zgC C.w hrr]
  unfold zgU
  split <;> simp [hDof,k1]
 have hend' : ∀ g' w' a' loc,Ext g w r.st g' w' (rr gops.size).st → Rel g' w' (rr gops.size).st → Fr κ loc nt g' w' (rr gops.size) a' → Q .normal a' w':=fun g' w' a' loc H R1 F1 => by
  rw [← C.len,k2] at H R1 F1
  exact hend g' w' a' loc H R1 F1
 refine zuL (b:=0) (l:=0) (v:=za8 rr) (envD:=zdP rr xs p) (σD:=zpH rr xs p) (g0:=g) (w0:=w) (σ0:=r.st) (rr:=rr) S C.plan (zAy S C hrr h0) hrr (znh hrr h0 p hpN) (fun D => by simp [zdP,k1,F.len]) F.nd F.bd (fun D hD => ⟨?_,?_⟩) hend' gops.size (yl gops.size false) g (w.drewN 1) a (by simp) (fun i _ => hDof i) (fun j hj => by rw [hDof] at hj; cases hj) ?_ ⟨?_,?_,F.size,F.df,fun i t ht => ?_,fun i t _ hD => by rw [hDof] at hD; cases hD⟩
 ·
  unfold zpH
  have hmp:=zod (xs:=xs) D p
  obtain ⟨n,hn⟩ : ∃ n,p = zeG xs D p + n:=⟨p - zeG xs D p,by omega⟩
  have:=zn9 hrr (a:=zeG xs D p) n (by omega) fun i h1 h2 h => zgR (xs:=xs) D p i h1 (by omega) ⟨by rw [hD]; simp; omega,h⟩
  rw [← hn] at this
  exact this.symm
 ·
  obtain ⟨q1,q2⟩:=zgk C.w hrr p (yh _)
  refine yr fun q => ?_
  by_cases hq : q < (rr 0).env.length
  ·have e1:=zgC (D:=D) (q:=q) C.w hrr
   have e2:=q2 q
   have e3 : zgU rr xs p D q = zgU rr xs p (fun k => decide (k < p)) q:=by
    congr 1
    funext k
    exact hD k
   rw [e3,← e2] at e1
   rw [yc,yc] at e1
   have l1 : q < (zdP rr xs p D).length:=by simpa [zdP] using hq
   have l2 : q < (rr p).env.length:=by omega
   rw [ya l1,ya l2] at e1 ⊢
   simpa using e1
  ·rw [ye (by simp [zdP]; omega),ye (by omega)]
 ·
  unfold left
  exact Nat.le_trans (List.length_filter_le _ _) (by simp)
 ·rw [hst0]; exact D1
 ·rw [hst0]; exact D2
 ·rw [hst0,henv0]
  exact D1.zf _ _ (F.env i t ht)
end
end Go.A
namespace Go.A
def zwJ : Oper → Bool
 | ⟨.loc,.al _ [],none⟩ => true
 | ⟨.slot _,.al _ [],none⟩ => true
 | ⟨.loc,.mks _ none _,none⟩ => true
 | _ => false
def eff (xs : List Oper) (i : Nat) : Bool:=decide (3 ≤ cls xs i)
def zEx (ms : List Nat) (xs : List Oper) (p j K : Nat) : Bool:=!(decide (K < p) && bit ms j K) && (yg K).all fun e => !(eff xs e && bit ms e j)
def harmless (xs : List Oper) (p c j K : Nat) : Bool:=(yg p).all fun i => !(eff xs i) || !(decide (min j K ≤ i) && decide (i < max j K)) || cls xs i == 4 || (c == 1 && decide (cls xs i ≤ 4))
def zw9 : D → Bool
 | .loc => true
 | _ => false
def zFQ : Op → Bool
 | .call _ _ _ => false
 | _ => true
def zuK (ms : List Nat) (xs : List Oper) (ps : List (Nat × Nat)) (p j : Nat) (x : Oper) : Bool :=
 zaS x.op == 0 || decide (3 ≤ zaS x.op) || (yg (p + 1)).all fun K => !(K == p || eff xs K) || !(zEx ms xs p j K) || harmless xs p (zaS x.op) j K || (ps.contains (j,K) && zw9 x.dst && zFQ x.op)
def ztE (xs : List Oper) (gops : Array Go.Oper) (j i : Nat) (y : Oper) : Bool:=(zas gops j).contains i || (match (xs[i]?).bind writes with
 | some q => zfv q y
 | none => false)
def zry (ms : List Nat) (gops : Array Go.Oper) (xs : List Oper) (i j : Nat) : Bool:=match xs[i]?,xs[j]? with
 | some x,some y => (zgh x y || bit ms j i) && (match writes x,writes y with
   | some q,some q' => q != q'
   | _,_ => true) && (!(eff xs i && eff xs j) || zwJ y || bit ms j i) && (!(zwJ x && ztE xs gops j i y) || (yg i).all fun e => !(eff xs e) || bit ms j e)
 | _,_ => false
def zua (P : Program) (κ : List Tmp) (nt : Nat) (gops : Array Go.Oper) (ps : List (Nat × Nat)) (xs : List Oper) (ms : List Nat) (p j : Nat) : Bool:=match gops[j]?,xs[j]? with
 | some o,some x => okD κ nt o.dst x.dst && zfM κ (zfi gops xs j) gops o.guard x.guard && zmf P κ (zfi gops xs j) o x.dst x.op && (zeN x).all (zwI (zfi gops xs j)) && (yg j).all (fun i => zry ms gops xs i j) && zuK ms xs ps p j x
 | _,_ => false
def zn5 (P : Program) : List Tmp → Nat → Array Go.Oper → List (Nat × Nat) → List Oper → Bool:=fun κ nt gops ps xs =>
 let ms:=zmn gops.toList []
 let p:=zn0 ms gops.size
 zih gops ms && xs.length == gops.size && decide (p ≤ gops.size) && zjl (zDS gops xs p) && (yg p).all (zua P κ nt gops ps xs ms p) && (yg gops.size).all fun j => decide (j < p) || ziL P κ nt gops xs ms j
structure Chk2 (P : Program) (κ : List Tmp) (nt : Nat) (gops : Array Go.Oper) (ps : List (Nat × Nat)) (xs : List Oper) (ms : List Nat) (p : Nat) : Prop where
 masks : zih gops ms = true
 len : xs.length = gops.size
 p_le : p ≤ gops.size
 dup : zjl (zDS gops xs p) = true
 pre : ∀ j,j < p → zua P κ nt gops ps xs ms p j = true
 tail : ∀ j,p ≤ j → j < gops.size → ziL P κ nt gops xs ms j = true
section
variable {P : Program} {κ : List Tmp} {nt : Nat} {gops : Array Go.Oper} {ps : List (Nat × Nat)} {xs : List Oper} {ms : List Nat} {p b l : Nat} {Cf : zad} {rr : Nat → R}
theorem zCF (h : zn5 P κ nt gops ps xs = true) : ∃ ms p,Chk2 P κ nt gops ps xs ms p:=by
 unfold zn5 at h
 simp only [yd,beq_iff_eq,decide_eq_true_eq] at h
 obtain ⟨⟨⟨⟨⟨h1,h2⟩,h3⟩,h4⟩,h5⟩,h6⟩:=h
 refine ⟨_,_,h1,h2,h3,h4,fun j hj => yf.1 h5 j (by simpa using hj),fun j hj hlt => ?_⟩
 have:=yf.1 h6 j (by simpa using hlt)
 simp only [yi,decide_eq_true_eq] at this
 rcases this with h | h
 ·omega
 ·exact h
theorem Chk2.pre_some (C : Chk2 P κ nt gops ps xs ms p) {j : Nat} (hj : j < p) {o : Go.Oper} {x : Oper} (ho : gops[j]? = some o) (hx : xs[j]? = some x) :
  okD κ nt o.dst x.dst = true ∧ zfM κ (zfi gops xs j) gops o.guard x.guard = true ∧ zmf P κ (zfi gops xs j) o x.dst x.op = true ∧ (∀ y ∈ zeN x,zwI (zfi gops xs j) y = true) ∧ (∀ i,i < j → zry ms gops xs i j = true) ∧ zuK ms xs ps p j x = true:=by
 have h:=C.pre j hj
 unfold zua at h
 rw [ho,hx] at h
 simp only [yd] at h
 obtain ⟨⟨⟨⟨⟨h1,h2⟩,h3⟩,h4⟩,h5⟩,h6⟩:=h
 exact ⟨h1,h2,h3,fun y hy => yf.1 h4 y hy,fun i hi => yf.1 h5 i (by simpa using hi),h6⟩
theorem Chk2.plan (C : Chk2 P κ nt gops ps xs ms p) : Plan P κ nt gops xs p where
 len:=C.len
 p_le:=C.p_le
 back:=fun j o ho i hi => by
  have hj : j < gops.size:=(yj.1 ho).1
  exact (zkj C.masks hj).2 i (by unfold zas; rw [ho]; exact hi)
 pre:=fun j o x hj ho hx => (C.pre_some hj ho hx).1
 apart:=fun i j t hi hj h1 h2 => zkf C.dup List.nodup_range i (by simpa using hi) j (by simpa using hj) t h1 h2
 tail:=fun j o x hj ho hx => by
  have hlt : j < gops.size:=(yj.1 ho).1
  have h:=C.tail j hj hlt
  unfold ziL at h
  rw [ho,hx] at h
  simp only [yd] at h
  obtain ⟨⟨⟨h1,h2⟩,h3⟩,h4⟩:=h
  exact ⟨h1,h2,h3,fun i hi => zeR C.masks j hlt (yf.1 h4 i (by simpa using hi))⟩
theorem Chk2.pair (C : Chk2 P κ nt gops ps xs ms p) {i j : Nat} (hij : i < j) (hj : j < p) {x y : Oper} (hx : xs[i]? = some x) (hy : xs[j]? = some y) :
  (zgh x y = true ∨ Reach gops j i) ∧ (∀ q,writes x = some q → writes y ≠ some q) ∧ (eff xs i = true → eff xs j = true → zwJ y = true ∨ Reach gops j i) ∧
  (zwJ x = true → ztE xs gops j i y = true → ∀ e,e < i → eff xs e = true → Reach gops j e):=by
 have hlt : j < gops.size:=Nat.lt_of_lt_of_le hj C.p_le
 have h:=(C.pre_some hj (Array.getElem?_eq_getElem hlt) hy).2.2.2.2.1 i hij
 unfold zry at h
 rw [hx,hy] at h
 simp only [yd,yi] at h
 obtain ⟨⟨⟨h1,h2⟩,h3⟩,h4⟩:=h
 refine ⟨h1.imp id fun h => zeR C.masks j hlt h,fun q hq hq' => ?_,fun he1 he2 => ?_,fun ha hu e he hee => ?_⟩
 ·rw [hq,hq'] at h2
  simp at h2
 ·rcases h3 with (h3 | h3) | h3
  ·simp [he1,he2] at h3
  ·exact .inl h3
  ·exact .inr (zeR C.masks j hlt h3)
 ·rcases h4 with h4 | h4
  ·simp [ha,hu] at h4
  ·have:=yf.1 h4 e (by simpa using he)
   simp only [yi,Bool.not_eq_true'] at this
   rcases this with h | h
   ·rw [hee] at h; cases h
   ·exact zeR C.masks j hlt h
theorem Chk2.w (C : Chk2 P κ nt gops ps xs ms p) : ChkW xs p:=⟨by rw [C.len]; exact C.p_le,fun hij hj _ _ hx hy => (C.pair hij hj hx hy).2.1⟩
def vis (xs : List Oper) (D : Nat → Bool) (K k : Nat) : Bool:=D k && (!(eff xs k) || decide (k < K))
def zdO (rr : Nat → R) (xs : List Oper) (p : Nat) (D : Nat → Bool) (K q : Nat) : V:=match wr xs p q with
 | some k => if vis xs D K k then (rr (k + 1)).env.getD q vun else if D k then vun else (rr 0).env.getD q vun
 | none => (rr 0).env.getD q vun
def zn2 (rr : Nat → R) (xs : List Oper) (p : Nat) (D : Nat → Bool) (K : Nat) : List V:=(yg (rr 0).env.length).map (zdO rr xs p D K)
theorem zmh {D : Nat → Bool} {K q : Nat} (C : ChkW xs p) (hrr : ∀ i x,xs[i]? = some x → step Cf (rr i) x = some (rr (i + 1))) : (zn2 rr xs p D K).getD q vun = zdO rr xs p D K q:=by
 unfold zn2
 by_cases hq : q < (rr 0).env.length
 ·simp [yc,hq]
 ·have e0 : (rr 0).env.getD q vun = vun:=by simp [yc,hq]
  have e1 : ((yg (rr 0).env.length).map (zdO rr xs p D K)).getD q vun = vun:=by simp [yc,hq]
  rw [e1]
  unfold zdO
  split
  ·rename_i k hk
   obtain ⟨q1,_⟩:=zgb hk
   have hl:=(zgk C hrr (k + 1) (by omega)).1
   split
   ·simp [yc,hl,hq]
   ·split
    ·rfl
    ·exact e0.symm
  ·exact e0.symm
inductive Mk where
 | ptr
 | own (n : Nat)
def Mk.v (id : Nat) : Mk → V
 | .ptr => .one (.ptr (id + 0) 0 0 0)
 | .own n => .one (.own id 0 0 n)
def Mk.u (b : Nat) : Mk → Value
 | .ptr => .pointer (some ⟨b,0,none⟩)
 | .own n => .slice (some ⟨b,0,none⟩) n n
def Mk.ok (sz : Nat) (es : List (List C)) : Mk → Prop
 | .ptr => es.length = 1
 | .own n => es.length = n
structure Raw (P : Program) (gops : Array Go.Oper) (xs : List Oper) (rr : Nat → R) (w0 : World) (g : G) (w : World) (a : Act) (i b : Nat) : Prop where
 it : ∃ (o : Go.Oper) (x : Oper) (sz : Nat) (es : List (List C)) (arr : Array Value) (ty : TypeId) (t : Tmp) (kd : Mk),gops[i]? = some o ∧ xs[i]? = some x ∧ zwJ x = true ∧ o.dst = some t ∧ w.heap[b]? = some (.cells arr ty) ∧ a.tmps.getD t undef = kd.u b ∧
  arr.size = es.length * sz ∧ (∀ g w σ,zco g w σ arr sz es) ∧ kd.ok sz es ∧ rr (i + 1) = ((rr i).at ((rr i).st ++ [.cells 0 sz es])).put x.dst (kd.v (rr i).st.length)
 ow : g.ow b = .no
 no : ∀ o,¬ g.N b o
 new : w0.heap.size ≤ b
structure Mid2 (P : Program) (gops : Array Go.Oper) (xs : List Oper) (κ : List Tmp) (nt p : Nat) (rr : Nat → R) (g0 : G) (w0 : World) (σ0 : zd) (D : Nat → Bool) (K : Nat) (B : Nat → Nat) (g : G) (w : World) (a : Act) : Prop where
 ext : Ext g0 w0 σ0 g w (rr K).st
 rel : Rel g w (rr K).st
 size : a.tmps.size = nt
 df : a.defers = []
 slot : ∀ (i : Nat) (t : Tmp),κ[i]? = some t → zf g w (rr K).st (zdO rr xs p D K i) (a.tmps.getD t undef)
 done : ∀ i t,i < p → vis xs D K i = true → lo gops xs i = some t → zf g w (rr K).st (za8 rr i) (a.tmps.getD t undef)
 kp : K ≤ p
 before : ∀ i,i < K → eff xs i = true → D i = true
 raw : ∀ i,i < p → D i = true → vis xs D K i = false → Raw P gops xs rr w0 g w a i (B i)
 inj : ∀ i j,i < p → j < p → D i = true → vis xs D K i = false → D j = true → vis xs D K j = false → B i = B j → i = j
theorem zkp {D : Nat → Bool} {K i : Nat} (h : i ≠ K) : vis xs D (K + 1) i = vis xs D K i:=by
 unfold vis
 have : decide (i < K + 1) = decide (i < K):=by
  simp only [decide_eq_decide]
  omega
 rw [this]
theorem zeY {D : Nat → Bool} {K i : Nat} (h : eff xs K = false) : vis xs D (K + 1) i = vis xs D K i:=by
 by_cases e : i = K
 ·subst e
  unfold vis
  simp [h]
 ·exact zkp e
theorem zFD {g g0 : G} {w w0 : World} {σ σ0 : zd} (R : Rel g w σ) (H0 : Ext g0 w0 σ0 g w σ) {b : Nat} {ty : TypeId} {arr : Array Value} {sz : Nat} {es : List (List C)} {kd : Mk} (hsz : arr.size = es.length * sz) (hrow : ∀ g w σ,zco g w σ arr sz es) (hkd : kd.ok sz es) (hb : w.heap[b]? = some (.cells arr ty))
  (ho : g.ow b = .no) (hN : ∀ o,¬ g.N b o) (hb0 : w0.heap.size ≤ b) :
  Ext g0 w0 σ0 (g.own σ.length b) w (σ ++ [.cells 0 sz es]) ∧ Rel (g.own σ.length b) w (σ ++ [.cells 0 sz es]) ∧
  (∀ v u,zf g w σ v u → zf (g.own σ.length b) w (σ ++ [.cells 0 sz es]) v u) ∧
  zf (g.own σ.length b) w (σ ++ [.cells 0 sz es]) (kd.v σ.length) (kd.u b):=by
 let g1 : G:={ g with ow:=zxD g.ow b (.ob σ.length) }
 have R1 : Rel g1 w σ:=zyp R rfl rfl rfl (fun b' id _ h => by
  by_cases e : b' = b
  ·subst e; rw [ho] at h; cases h
  ·exact (zaF g.ow _ e).trans h) (fun b' t k _ h => by
  by_cases e : b' = b
  ·subst e; rw [ho] at h; cases h
  ·exact (zaF g.ow _ e).trans h)
 have H1 : Ext g0 w0 σ0 g1 w σ:={ H0 with ow:=fun b' hb' => (zaF g.ow _ (by omega)).trans (H0.ow b' hb') }
 have hlt : b < w.heap.size:=(yj.1 hb).1
 have H2 : Ext g1 w σ (g.own σ.length b) w (σ ++ [.cells 0 sz es]):={
  os:=rfl
  tape:=rfl
  output:=rfl
  size:=yh _
  keeps:=fun _ _ h => ⟨h,rfl⟩
  len:=by simp
  shape:=fun id ver sz len h => by
   obtain ⟨es,h1,h2⟩:=zaR h
   have hl:=zb h1
   exact .inl ⟨by unfold shapeOf; rw [yb hl]; exact h,zaF g.ρ _ (by omega),fun _ arr t ha => ⟨arr,ha,rfl⟩⟩
  map:=fun id es h => ⟨zaF g.ρ _ (by have:=zb h; omega),es,by rw [yb (zb h)]; exact h⟩
  tok:=fun t k n h => by
   obtain ⟨sz,fr,h1,h2⟩:=zcX h
   exact ⟨n,zdD (by rw [yb (zb h1)]; exact h1) h2,yh _,fun _ => rfl⟩
  tsz:=fun t sz h => by
   obtain ⟨fr,h1⟩:=zez h
   exact zce (fr:=fr) (by rw [yb (zb h1)]; exact h1)
  ow:=fun _ _ => rfl
  new:=fun _ _ h _ _ => h
  frame:=fun _ _ _ => rfl }
 refine ⟨H1.trans H2,⟨R.nb,fun id ob h => ?_⟩,fun v u h => H2.zf _ _ (zgT (g:=g) (g':=g1) rfl rfl rfl v u h),?_⟩
 ·by_cases hl : id < σ.length
  ·rw [yb hl] at h
   exact zcV H2 (zaF g.ρ _ (by omega)) (fun _ => rfl) (fun b' _ _ => ⟨rfl,rfl,fun _ h => h⟩) (R1.ob id ob h)
  ·have hid : id = σ.length:=by
    have:=zb h
    simp at this
    omega
   subst hid
   simp at h
   subst h
   exact fun _ => ⟨by simp [G.own],fun o => by simp [G.own]; exact hN o,arr,ty,by simpa [G.own] using hb,by omega,hrow _ _ _⟩
 ·cases kd with
  | ptr =>
    simp only [Mk.v,Mk.u,zf,zw,Nat.add_zero]
    exact ⟨0,sz,es.length,zn (zkn σ _),yh _,fun _ => by simp [G.own],_,rfl⟩
  | own n =>
    simp only [Mk.ok] at hkd
    subst hkd
    simp only [Mk.v,Mk.u,zf,zw]
    refine ⟨0,sz,es.length,zn (zkn σ _),yh _,fun _ => ⟨_,_,rfl,yh _,fun h => h,fun _ => ⟨by omega,fun _ => by simp [G.own],arr,ty,?_,by rw [Nat.zero_add]; omega⟩⟩,_,_,rfl⟩
    simpa [G.own] using hb
end
end Go.A

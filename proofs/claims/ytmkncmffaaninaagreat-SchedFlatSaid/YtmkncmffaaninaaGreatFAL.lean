/- A part of the proof of SchedFlat. Conditions: none. -/
import Derived.Test.YtmkncmffaaninaaGreatFAK
set_option linter.all false
open List renaming getElem?_eq_getElem → ya,getD_eq_getElem?_getD → yb,getElem?_append_left → yd,getElem?_eq_none → ye,all_eq_true → yf,range → yg,getElem?_map → yn,filterMap_cons → yp,getElem?_range → yq,map_congr_left → yr,mem_cons → ys,ext_getElem? → yt
open Bool renaming and_eq_true → yc,or_eq_true → yh
open Nat renaming lt_or_ge → yi,lt_trichotomy → yl,add_assoc → ym,le_refl → yo
open Array renaming replicate → yj,getElem?_eq_some_iff → yk
open Option renaming map_some → yu
namespace Go.A
def zqA (ms : List Nat) : List Nat → Nat → Nat
 | [],s => s
 | i :: es,s => zqA ms es (s ||| (2 ^ i ||| ms.getD i 0))
def zmC : List Go.Oper → List Nat → List Nat
 | [],acc => acc
 | o :: os,acc => zmC os (acc ++ [zqA acc (zwT o) 0])
def zix (gops : Array Go.Oper) (ms : List Nat) : Bool :=
 (yg gops.size).all fun j => (ms.getD j 0 == zqA ms (zaw gops j) 0) && (zaw gops j).all fun i => decide (i < j)
def bit (ms : List Nat) (j i : Nat) : Bool:=(ms.getD j 0).testBit i
theorem zq8 {ms : List Nat} {i : Nat} : ∀ {es : List Nat} {s : Nat},(zqA ms es s).testBit i = true → s.testBit i = true ∨ ∃ e ∈ es,e = i ∨ bit ms e i = true
 | [],s,h => .inl h
 | e :: es,s,h => by
   simp only [zqA] at h;rcases zq8 h with h | ⟨b,a,h⟩
   ·simp only [Nat.testBit_or,yh,Nat.testBit_two_pow,decide_eq_true_eq] at h
    rcases h with h | h | h
    ·exact .inl h
    ·exact .inr ⟨e,by simp,.inl h⟩
    ·exact .inr ⟨e,by simp,.inr h⟩
   ·exact .inr ⟨b,by simp [a],h⟩
theorem zkJ {gops : Array Go.Oper} {ms : List Nat} (h : zix gops ms = true) {j : Nat} (b : j < gops.size) : ms.getD j 0 = zqA ms (zaw gops j) 0 ∧ ∀ i ∈ zaw gops j,i < j:=by
 unfold zix at h;have:=yf.1 h j (by simpa using b);simp only [yc,beq_iff_eq] at this;exact ⟨this.1,fun i a => by simpa using yf.1 this.2 i a⟩
theorem zeV {gops : Array Go.Oper} {ms : List Nat} (h : zix gops ms = true) {i : Nat} : ∀ (j : Nat),j < gops.size → bit ms j i = true → Reach gops j i:=by
 intro j
 induction j using Nat.strongRecOn with
 | _ j ih =>
   intro d a;obtain ⟨c,b⟩:=zkJ h d;unfold bit at a;rw [c] at a;rcases zq8 a with a | ⟨e,he,a⟩
   ·simp at a
   ·rcases a with rfl | a
    ·exact .edge he
    ·exact .more he (ih e (b e he) (by have:=b e he; omega) a)
def free (c c' : Nat) : Bool:=c == 0 || c' == 0 || (decide (c ≤ 2) && decide (c' ≤ 2)) || (c == 1 && c' == 3) || (c == 3 && c' == 1) || (decide (c ≤ 2) && c' == 4) || (c == 4 && decide (c' ≤ 2))
def writes : Oper → Option Nat
 | ⟨.slot q,_,_⟩ => some q
 | _ => none
def zfC (q : Nat) (x : Oper) : Bool:=(zeQ x).any fun
 | .s q' => q' == q
 | _ => false
def zgn (x y : Oper) : Bool :=
 (match writes x with
  | some q => !zfC q y && (match writes y with
    | some q' => q' != q
    | none => true)
  | none => true) &&
 (match writes y with
  | some q => !zfC q x
  | none => true)
def cls (xs : List Oper) (j : Nat) : Nat:=match xs[j]? with
 | some x => zaS x.op
 | none => 0
def zwt (loc : List (Option Tmp)) : X → Bool
 | .l d => match loc[d]? with
   | some (some t) => (loc.take d).all (· != some t)
   | _ => false
 | .s _ => true
 | .c v => v.lt 0
def zup (ms : List Nat) (xs : List Oper) (i j : Nat) : Bool:=match xs[i]?,xs[j]? with
 | some x,some y => ((free (zaS x.op) (zaS y.op) && zgn x y) || bit ms j i) && (match writes x,writes y with
   | some q,some q' => q != q'
   | _,_ => true)
 | _,_ => false
def zvI (P : Program) (κ : List Tmp) (nt : Nat) (gops : Array Go.Oper) (xs : List Oper) (ms : List Nat) (j : Nat) : Bool:=match gops[j]?,xs[j]? with
 | some o,some x => okD κ nt o.dst x.dst && zfO κ (zft gops xs j) gops o.guard x.guard && zmm P κ (zft gops xs j) o x.dst x.op && (zeQ x).all (zwt (zft gops xs j)) && (yg j).all fun i => zup ms xs i j
 | _,_ => false
def ziX (P : Program) (κ : List Tmp) (nt : Nat) (gops : Array Go.Oper) (xs : List Oper) (ms : List Nat) (j : Nat) : Bool:=match gops[j]?,xs[j]? with
 | some o,some x => okD κ nt o.dst x.dst && zfO κ (zhT gops xs j) gops o.guard x.guard && zmm P κ (zhT gops xs j) o x.dst x.op && (yg j).all fun i => bit ms j i
 | _,_ => false
def zoo (ms : List Nat) : Nat → Nat
 | 0 => 0
 | n + 1 => if (yg n).all (fun i => bit ms n i) then zoo ms n else n + 1
def zEe (gops : Array Go.Oper) (xs : List Oper) (p : Nat) : List Tmp:=(yg p).filterMap (lo gops xs)
def zsp (P : Program) : List Tmp → Nat → Array Go.Oper → List Oper → Bool:=fun κ nt gops xs =>
 let ms:=zmC gops.toList []
 let p:=zoo ms gops.size
 zix gops ms && xs.length == gops.size && decide (p ≤ gops.size) && zj2 (zEe gops xs p) && (yg p).all (zvI P κ nt gops xs ms) && (yg gops.size).all fun j => decide (j < p) || ziX P κ nt gops xs ms j
section
variable {P : Program} {κ : List Tmp} {nt : Nat} {gops : Array Go.Oper} {xs : List Oper} {ms : List Nat} {p : Nat}
theorem zkH : ∀ {l : List Nat},zj2 (l.filterMap (lo gops xs)) = true → l.Nodup → ∀ i ∈ l,∀ j ∈ l,∀ t,lo gops xs i = some t → lo gops xs j = some t → i = j
 | [],_,_,i,hi,_,_,_,_,_ => by simp at hi
 | x :: l,h,hn,i,hi,j,hj,t,h1,h2 => by
   rw [List.nodup_cons] at hn
   have c : zj2 (l.filterMap (lo gops xs)) = true:=by
    rw [yp] at h;split at h
    ·exact h
    ·simp only [zj2,yc] at h; exact h.2
   have a : ∀ k ∈ l,∀ t,lo gops xs x = some t → lo gops xs k = some t → False:=fun k g t f e => by
    rw [yp,f] at h;simp only [zj2,yc,Bool.not_eq_true'] at h;have : t ∈ l.filterMap (lo gops xs):=List.mem_filterMap.2 ⟨k,g,e⟩;simp [this] at h
   rcases ys.1 hi with e1 | d
   ·rcases ys.1 hj with e2 | b
    ·rw [e1,e2]
    ·exact (a j b t (by rw [← e1]; exact h1) h2).elim
   ·rcases ys.1 hj with e2 | b
    ·exact (a i d t (by rw [← e2]; exact h2) h1).elim
    ·exact zkH c hn.2 i d j b t h1 h2
theorem zll {j : Nat} (h : zvI P κ nt gops xs ms j = true) {o : Go.Oper} {x : Oper} (g : gops[j]? = some o) (f : xs[j]? = some x) :
  okD κ nt o.dst x.dst = true ∧ zfO κ (zft gops xs j) gops o.guard x.guard = true ∧ zmm P κ (zft gops xs j) o x.dst x.op = true ∧ (∀ y ∈ zeQ x,zwt (zft gops xs j) y = true) ∧ ∀ i,i < j → zup ms xs i j = true:=by
 unfold zvI at h;rw [g,f] at h;simp only [yc] at h;obtain ⟨⟨⟨⟨a,k⟩,c⟩,d⟩,b⟩:=h;exact ⟨a,k,c,fun y l => yf.1 d y l,fun i e => yf.1 b i (by simpa using e)⟩
structure Chk (P : Program) (κ : List Tmp) (nt : Nat) (gops : Array Go.Oper) (xs : List Oper) (ms : List Nat) (p : Nat) : Prop where
 masks : zix gops ms = true
 len : xs.length = gops.size
 p_le : p ≤ gops.size
 dup : zj2 (zEe gops xs p) = true
 pre : ∀ j,j < p → zvI P κ nt gops xs ms j = true
 tail : ∀ j,p ≤ j → j < gops.size → ziX P κ nt gops xs ms j = true
theorem zFf (h : zsp P κ nt gops xs = true) : ∃ ms p,Chk P κ nt gops xs ms p:=by
 unfold zsp at h;simp only [yc,beq_iff_eq,decide_eq_true_eq] at h;obtain ⟨⟨⟨⟨⟨c,i⟩,e⟩,f⟩,d⟩,g⟩:=h;refine ⟨_,_,c,i,e,f,fun j b => yf.1 d j (by simpa using b),fun j b a => ?_⟩;have:=yf.1 g j (by simpa using a);simp only [yh,decide_eq_true_eq] at this;rcases this with h | h
 ·omega
 ·exact h
theorem Chk.plan (C : Chk P κ nt gops xs ms p) : Plan P κ nt gops xs p where
 len:=C.len
 p_le:=C.p_le
 back:=fun j o a i c => by
  have b : j < gops.size:=(yk.1 a).1;exact (zkJ C.masks b).2 i (by unfold zaw; rw [a]; exact c)
 pre:=fun j o x b a f => (zll (C.pre j b) a f).1
 apart:=fun i j t c b e g => zkH C.dup List.nodup_range i (by simpa using c) j (by simpa using b) t e g
 tail:=fun j o x b a f => by
  have d : j < gops.size:=(yk.1 a).1;have h:=C.tail j b d;unfold ziX at h;rw [a,f] at h;simp only [yc] at h;obtain ⟨⟨⟨e,g⟩,l⟩,k⟩:=h;exact ⟨e,g,l,fun i c => zeV C.masks j d (yf.1 k i (by simpa using c))⟩
theorem Chk.pair (C : Chk P κ nt gops xs ms p) {i j : Nat} (c : i < j) (e : j < p) {x y : Oper} (k : xs[i]? = some x) (f : xs[j]? = some y) :
  ((free (zaS x.op) (zaS y.op) = true ∧ zgn x y = true) ∨ Reach gops j i) ∧ ∀ q,writes x = some q → writes y ≠ some q:=by
 have a : j < gops.size:=Nat.lt_of_lt_of_le e C.p_le;have h:=(zll (C.pre j e) (Array.getElem?_eq_getElem a) f).2.2.2.2 i c;unfold zup at h;rw [k,f] at h;simp only [yc,yh] at h;obtain ⟨g,d⟩:=h;refine ⟨g.imp id fun h => zeV C.masks j a h,fun q l b => ?_⟩;rw [l,b] at d;simp at d
variable {Cf : zae} {rr : Nat → R}
def za6 (rr : Nat → R) (j : Nat) : V:=(rr (j + 1)).rs.headD vun
theorem zmn (a : ∀ i x,xs[i]? = some x → step Cf (rr i) x = some (rr (i + 1))) {j : Nat} {x : Oper} (d : xs[j]? = some x) :
  ∃ v σ1,rr (j + 1) = ((rr j).at σ1).put x.dst v ∧ zAF (zaS x.op) (rr j).st σ1:=by
 obtain ⟨v,σ1,b,_,c⟩:=zrO (r':=rr j) (fun _ _ => rfl) rfl (a j x d);exact ⟨v,σ1,b,c⟩
theorem znK (a : ∀ i x,xs[i]? = some x → step Cf (rr i) x = some (rr (i + 1))) (b : (rr 0).rs = []) : ∀ j,j ≤ xs.length → (rr j).rs = (yg j).reverse.map (za6 rr)
 | 0,_ => by simpa using b
 | j + 1,hj => by
   have d:=znK a b j (by omega);obtain ⟨v,σ1,c,_⟩:=zmn a (ya (by omega : j < xs.length));obtain ⟨y,f⟩:=zEP ((rr j).at σ1) xs[j].dst v;rw [List.range_succ,List.reverse_append];simp only [List.reverse_cons,List.reverse_nil,List.nil_append,List.map_append,List.map_cons,List.map_nil,List.singleton_append];have e : (rr (j + 1)).rs = y :: (rr j).rs:=(by rw [c]; exact f);have e2 : za6 rr j = y:=(by unfold za6; rw [e]; rfl);rw [e,e2,d]
def wr (xs : List Oper) (p q : Nat) : Option Nat:=(yg p).find? fun k => match xs[k]? with
 | some x => writes x == some q
 | none => false
theorem zgw {q k : Nat} (h : wr xs p q = some k) : k < p ∧ ∃ x,xs[k]? = some x ∧ writes x = some q:=by
 unfold wr at h;have a:=List.find?_some h;have c:=List.mem_of_find?_eq_some h;refine ⟨by simpa using c,?_⟩;split at a
 ·rename_i x b; exact ⟨x,b,by simpa using a⟩
 ·cases a
structure ChkW (xs : List Oper) (p : Nat) : Prop where
 le : p ≤ xs.length
 ww : ∀ {i j : Nat},i < j → j < p → ∀ {x y : Oper},xs[i]? = some x → xs[j]? = some y → ∀ q,writes x = some q → writes y ≠ some q
theorem Chk.w (C : Chk P κ nt gops xs ms p) : ChkW xs p:=⟨by rw [C.len]; exact C.p_le,fun a c _ _ b d => (C.pair a c b d).2⟩
theorem zA1 (C : ChkW xs p) {q k : Nat} {x : Oper} (e : k < p) (b : xs[k]? = some x) (hw : writes x = some q) : wr xs p q = some k:=by
 cases h : wr xs p q with
 | none =>
   unfold wr at h;rw [List.find?_eq_none] at h;have:=h k (by simpa using e);rw [b] at this;simp [hw] at this
 | some k' =>
   obtain ⟨f,g,d,c⟩:=zgw h;rcases yl k k' with a | rfl | a
   ·exact absurd c (C.ww a f b d q hw)
   ·rfl
   ·exact absurd hw (C.ww a e d b q c)
def zg4 (rr : Nat → R) (xs : List Oper) (p : Nat) (D : Nat → Bool) (q : Nat) : V:=match wr xs p q with
 | some k => if D k then (rr (k + 1)).env.getD q vun else (rr 0).env.getD q vun
 | none => (rr 0).env.getD q vun
def zdU (rr : Nat → R) (xs : List Oper) (p : Nat) (D : Nat → Bool) : List V:=(yg (rr 0).env.length).map (zg4 rr xs p D)
theorem zgr (C : ChkW xs p) (c : ∀ i x,xs[i]? = some x → step Cf (rr i) x = some (rr (i + 1))) : ∀ j,j ≤ p → (rr j).env.length = (rr 0).env.length ∧ ∀ q,(rr j).env.getD q vun = zg4 rr xs p (fun k => decide (k < j)) q
 | 0,_ => ⟨rfl,fun q => by
   unfold zg4
   split <;> simp⟩
 | j + 1,hj => by
   obtain ⟨f,r⟩:=zgr C c j (by omega);have n : j < xs.length:=(by have:=C.le; omega);have o : xs[j]? = some xs[j]:=ya n;obtain ⟨v,σ1,A,_⟩:=zmn c o;have a:=zDg ((rr j).at σ1) xs[j].dst v;rw [← A] at a;refine ⟨?_,fun q => ?_⟩
   ·rw [a]
    split
    ·simp [R.at,f]
    ·exact f
   ·by_cases hw : writes xs[j] = some q
    ·have w:=zA1 C (by omega : j < p) o hw
     unfold zg4;rw [w];simp
    ·have b : (rr (j + 1)).env.getD q vun = (rr j).env.getD q vun:=by
      rw [a];split
      ·rename_i t u
       have h : t ≠ q:=fun e => hw (by
        subst e
        have : xs[j] = ⟨.slot t,xs[j].op,xs[j].guard⟩:=by
         cases s : xs[j] with
         | mk d op g => rw [s] at u; simp only at u; rw [u]
        rw [this]; rfl)
       simp only [yb,List.getElem?_set_ne h,R.at]
      ·rfl
     rw [b,r];unfold zg4;split
     ·rename_i k z
      obtain ⟨D,B,m,y⟩:=zgw z
      have h : k ≠ j:=fun e => by subst e; rw [o] at m; injection m with m; rw [← m] at y; exact hw y
      by_cases l : k < j
      ·simp only [decide_eq_true_eq,if_pos l,if_pos (by omega : k < j + 1)]
      ·simp only [decide_eq_true_eq,if_neg l,if_neg (by omega : ¬ k < j + 1)]
     ·rfl
theorem zgP {D : Nat → Bool} {q : Nat} (C : ChkW xs p) (b : ∀ i x,xs[i]? = some x → step Cf (rr i) x = some (rr (i + 1))) : (zdU rr xs p D).getD q vun = zg4 rr xs p D q:=by
 unfold zdU
 by_cases a : q < (rr 0).env.length
 ·simp [yb,a]
 ·have e0 : (rr 0).env.getD q vun = vun:=by simp [yb,a]
  have e1 : ((yg (rr 0).env.length).map (zg4 rr xs p D)).getD q vun = vun:=by simp [yb,a]
  rw [e1];unfold zg4;split
  ·rename_i k c
   obtain ⟨e,_⟩:=zgw c;have d:=(zgr C b (k + 1) (by omega)).1;split
   ·simp [yb,d,a]
   ·exact e0.symm
  ·exact e0.symm
def zeI (xs : List Oper) (D : Nat → Bool) : Nat → Nat
 | 0 => 0
 | n + 1 => if D n && decide (3 ≤ cls xs n) then n + 1 else zeI xs D n
def zp3 (rr : Nat → R) (xs : List Oper) (p : Nat) (D : Nat → Bool) : zd:=(rr (zeI xs D p)).st
theorem zom (D : Nat → Bool) : ∀ n,zeI xs D n ≤ n
 | 0 => yo _
 | n + 1 => by
   have:=zom D n;simp only [zeI];split <;> omega
theorem zop (D : Nat → Bool) : ∀ n,zeI xs D n = 0 ∨ ∃ k,zeI xs D n = k + 1 ∧ D k = true ∧ 3 ≤ cls xs k
 | 0 => .inl rfl
 | n + 1 => by
   simp only [zeI];split
   ·rename_i h
    simp only [yc,decide_eq_true_eq] at h;exact .inr ⟨n,rfl,h⟩
   ·exact zop D n
theorem zhe (D : Nat → Bool) : ∀ n k,zeI xs D n ≤ k → k < n → ¬ (D k = true ∧ 3 ≤ cls xs k)
 | 0,k,_,h => by omega
 | n + 1,k,h1,h2 => by
   simp only [zeI] at h1;split at h1
   ·omega
   ·rename_i h
    rcases yi k n with c | c
    ·exact zhe D n k h1 c
    ·have : k = n:=by omega
     subst this;intro ⟨a,b⟩;exact h (by simp [a,b])
end
theorem zoP {g : G} {w : World} {σ : zd} : ∀ (v : V) (u : Value),zf g w σ v u → v.lt σ.length = true
 | .one c,u,h => by
   simp only [zf] at h;simp only [V.lt];exact znx c u h
 | .agg cs,u,h => by
   simp only [zf] at h;obtain ⟨us,_,a⟩:=h;simp only [V.lt];exact zoB cs _ a
 | .tup vs,u,h => by
   simp only [zf] at h;obtain ⟨us,_,a⟩:=h;simp only [V.lt];exact go vs _ a
 where go : ∀ (vs : List V) (us : List Value),zz g w σ vs us → V.lts σ.length vs = true
 | [],_,_ => rfl
 | v :: vs,us,h => by
   simp only [zz] at h;obtain ⟨x,xs,_,b,a⟩:=h;simp only [V.lts,yc];exact ⟨zoP v x b,go vs xs a⟩
mutual
theorem C.lt_mono {n m : Nat} (h : n ≤ m) : ∀ c : C,c.lt n = true → c.lt m = true
 | .f _,_ => by simp [C.lt]
 | .ap t _ _,hc => by simp [C.lt] at hc ⊢; omega
 | .ptr id _ _ _,hc => by simp [C.lt] at hc ⊢; omega
 | .fp _ _,_ => by simp [C.lt]
 | .own id _ _ _,hc => by simp [C.lt] at hc ⊢; omega
 | .map id,hc => by simp [C.lt] at hc ⊢; omega
 | .fn _ a b,hc => by
   simp only [C.lt,yc] at hc ⊢;exact ⟨C.lts_mono h a hc.1,C.lts_mono h b hc.2⟩
 | .un,_ => by simp [C.lt]
theorem C.lts_mono {n m : Nat} (h : n ≤ m) : ∀ cs : List C,C.lts n cs = true → C.lts m cs = true
 | [],_ => rfl
 | c :: cs,hc => by
   simp only [C.lts,yc] at hc ⊢;exact ⟨C.lt_mono h c hc.1,C.lts_mono h cs hc.2⟩
end
mutual
theorem V.lt_mono {n m : Nat} (h : n ≤ m) : ∀ c : V,c.lt n = true → c.lt m = true
 | .one c,hc => by
   simp only [V.lt] at hc ⊢;exact C.lt_mono h c hc
 | .agg cs,hc => by
   simp only [V.lt] at hc ⊢;exact C.lts_mono h cs hc
 | .tup vs,hc => by
   simp only [V.lt] at hc ⊢;exact V.lts_mono h vs hc
theorem V.lts_mono {n m : Nat} (h : n ≤ m) : ∀ cs : List V,V.lts n cs = true → V.lts m cs = true
 | [],_ => rfl
 | c :: cs,hc => by
   simp only [V.lts,yc] at hc ⊢;exact ⟨V.lt_mono h c hc.1,V.lts_mono h cs hc.2⟩
end
theorem zsa {c a : Nat} (h : free c a = true) : c ≤ 2 ∨ a ≤ 2:=by
 unfold free at h;simp only [yh,yc,beq_iff_eq,decide_eq_true_eq] at h;omega
theorem zvW {c : Nat} (h : free 2 c = true ∨ free c 2 = true) : c ≤ 2 ∨ c = 4:=by
 unfold free at h;simp only [yh,yc,beq_iff_eq,decide_eq_true_eq] at h;omega
theorem zwc {c : Nat} (h : free 1 c = true ∨ free c 1 = true) : c ≤ 4:=by
 unfold free at h;simp only [yh,yc,beq_iff_eq,decide_eq_true_eq] at h;omega
section
variable {P : Program} {κ : List Tmp} {nt : Nat} {gops : Array Go.Oper} {xs : List Oper} {ms : List Nat} {p b l : Nat} {Cf : zae} {rr : Nat → R}
theorem zAc (a : ∀ i x,xs[i]? = some x → step Cf (rr i) x = some (rr (i + 1))) {j : Nat} {x : Oper} (c : xs[j]? = some x) : zAF (zaS x.op) (rr j).st (rr (j + 1)).st:=by
 obtain ⟨v,σ1,b,d⟩:=zmn a c;rw [b,zeZ];exact d
theorem zhA {j : Nat} {x : Oper} (a : xs[j]? = some x) : cls xs j = zaS x.op:=by unfold cls; rw [a]
theorem zov (b : ∀ i x,xs[i]? = some x → step Cf (rr i) x = some (rr (i + 1))) {a : Nat} : ∀ n,a + n ≤ xs.length → (∀ k,a ≤ k → k < a + n → ¬ 3 ≤ cls xs k) → (rr (a + n)).st = (rr a).st
 | 0,_,_ => rfl
 | n + 1,hn,h => by
   have c:=zov b n (by omega) fun k f j => h k f (by omega);have d : xs[a + n]? = some (xs[a + n]'(by omega)):=ya (by omega);have g:=h (a + n) (by omega) (by omega);rw [zhA d] at g;rcases zAc b d with e | e
   ·rw [← ym,e,c]
   ·rw [← ym,e.1 (by omega),c]
theorem zl9 (c : ∀ i x,xs[i]? = some x → step Cf (rr i) x = some (rr (i + 1))) {a : Nat} : ∀ n,a + n ≤ xs.length → (∀ k,a ≤ k → k < a + n → cls xs k ≤ 2 ∨ cls xs k = 4) → ∃ os,(rr (a + n)).st = (rr a).st ++ os
 | 0,_,_ => ⟨[],by simp⟩
 | n + 1,hn,h => by
   obtain ⟨os,f⟩:=zl9 c n (by omega) fun k j m => h k j (by omega);have g : xs[a + n]? = some (xs[a + n]'(by omega)):=ya (by omega);have b:=h (a + n) (by omega) (by omega);rw [zhA g] at b;rw [← ym];rcases zAc c g with e | e
   ·exact ⟨os,by rw [e,f]⟩
   ·rcases b with b | b
    ·exact ⟨os,by rw [e.1 b,f]⟩
    ·obtain ⟨d,l⟩:=e.2.2 b
     exact ⟨os ++ d,by rw [l,f,List.append_assoc]⟩
theorem zmj (j : ∀ i x,xs[i]? = some x → step Cf (rr i) x = some (rr (i + 1))) {a : Nat} : ∀ n,a + n ≤ xs.length → (∀ k,a ≤ k → k < a + n → cls xs k ≤ 4) →
  (rr a).st.length ≤ (rr (a + n)).st.length ∧ (∀ q,SameRow q (rr a).st (rr (a + n)).st) ∧ ∀ q,q ≤ (rr a).st.length → SameRow q (rr (a + n)).st (rr a).st
 | 0,_,_ => ⟨yo _,fun q => ⟨fun id b sz o _ c d => ⟨o,c,d⟩⟩,fun q _ => ⟨fun id b sz o _ c d => ⟨o,c,d⟩⟩⟩
 | n + 1,hn,h => by
   obtain ⟨v,r,p⟩:=zmj j n (by omega) fun k w B => h k w (by omega);have s : xs[a + n]? = some (xs[a + n]'(by omega)):=ya (by omega);have u:=h (a + n) (by omega) (by omega);rw [zhA s] at u;rw [← ym]
   have key : (rr (a + n)).st.length ≤ (rr (a + n + 1)).st.length ∧ (∀ q,SameRow q (rr (a + n)).st (rr (a + n + 1)).st) ∧ ∀ q,q ≤ (rr (a + n)).st.length → SameRow q (rr (a + n + 1)).st (rr (a + n)).st:=by
    have same : (rr (a + n + 1)).st = (rr (a + n)).st → (rr (a + n)).st.length ≤ (rr (a + n + 1)).st.length ∧ (∀ q,SameRow q (rr (a + n)).st (rr (a + n + 1)).st) ∧ ∀ q,q ≤ (rr (a + n)).st.length → SameRow q (rr (a + n + 1)).st (rr (a + n)).st:=fun e => by
     rw [e];exact ⟨yo _,fun q => ⟨fun id b sz o _ c d => ⟨o,c,d⟩⟩,fun q _ => ⟨fun id b sz o _ c d => ⟨o,c,d⟩⟩⟩
    rcases zAc j s with e | e
    ·exact same e
    ·rcases yi (zaS (xs[a + n]'(by omega)).op) 3 with y | y
     ·exact same (e.1 (by omega))
     ·rcases yi (zaS (xs[a + n]'(by omega)).op) 4 with z | z
      ·obtain ⟨l,g⟩:=e.2.1 (by omega)
       exact ⟨by omega,fun q => (g q).1,fun q _ => (g q).2⟩
      ·obtain ⟨os,A⟩:=e.2.2 (by omega)
       rw [A];refine ⟨by simp,fun q => ⟨fun id b sz o _ c d => ⟨o,by rw [yd (zb c)]; exact c,d⟩⟩,fun q t => ⟨fun id b sz o f c d => ⟨o,?_,d⟩⟩⟩;rw [yd (by omega)] at c;exact c
   refine ⟨by omega,fun q => ⟨fun id b sz o f c d => ?_⟩,fun q t => ⟨fun id b sz o f c d => ?_⟩⟩
   ·obtain ⟨m,l,g⟩:=(r q).row id b sz o f c d
    exact (key.2.1 q).row id b sz m f l g
   ·obtain ⟨m,l,g⟩:=(key.2.2 q (by omega)).row id b sz o f c d
    exact (p q t).row id b sz m f l g
theorem zpQ {D : Nat → Bool} {j : Nat} (a : ¬ 3 ≤ cls xs j) : ∀ n,zeI xs (zba D j) n = zeI xs D n
 | 0 => rfl
 | n + 1 => by
   simp only [zeI,zpQ a n]
   by_cases h : n = j
   ·subst h
    simp [a]
   ·simp [zba,h]
theorem zt5 {D : Nat → Bool} {j : Nat} (c : 3 ≤ cls xs j) : ∀ n,j < n → (∀ k,j < k → k < n → ¬ (D k = true ∧ 3 ≤ cls xs k)) → zeI xs (zba D j) n = j + 1
 | 0,h,_ => by omega
 | n + 1,h,hno => by
   simp only [zeI]
   by_cases e : n = j
   ·subst e
    simp [zba,c]
   ·have b:=hno n (by omega) (by omega)
    have hu : zba D j n = D n:=(by simp [zba,e]);rw [hu,if_neg (by simpa using fun a => by simpa [a] using b)];exact zt5 c n (by omega) fun k d f => hno k d (by omega)
theorem zpG (C : ChkW xs p) (g : ∀ i x,xs[i]? = some x → step Cf (rr i) x = some (rr (i + 1))) {D : Nat → Bool} {j : Nat} {x : Oper} (s : j < p) (m : xs[j]? = some x) {v : V} {σ1 : zd} (w : rr (j + 1) = ((rr j).at σ1).put x.dst v) :
  zdU rr xs p (zba D j) = match x.dst with
   | .slot t => (zdU rr xs p D).set t v
   | _ => zdU rr xs p D:=by
 have a : ∀ q,writes x ≠ some q → zg4 rr xs p (zba D j) q = zg4 rr xs p D q:=fun q c => by
  unfold zg4;split
  ·rename_i k n
   obtain ⟨_,y,b,u⟩:=zgw n
   have l : k ≠ j:=fun e => by subst e; rw [m] at b; injection b with b; subst b; exact c u
   have : zba D j k = D k:=(by simp [zba,l]);rw [this]
  ·rfl
 obtain ⟨d,op,r⟩:=x
 cases d with
 | slot t =>
   have hw : writes ⟨.slot t,op,r⟩ = some t:=rfl;have h:=zA1 C s m hw;refine yt fun q => ?_;rw [List.getElem?_set]
   by_cases c : q < (rr 0).env.length
   ·by_cases e : t = q
    ·subst e
     rw [if_pos rfl,if_pos (by simpa [zdU] using c)];unfold zdU;rw [yn,yq c];simp only [yu];unfold zg4;rw [h];have f : zba D j j = true:=(by simp [zba]);simp only [f,if_true];rw [w];have o:=(zgr C g j (by omega)).1;simp [R.put,R.at,yb,o,c]
    ·rw [if_neg e]
     unfold zdU;rw [yn,yn,yq c];simp only [yu];rw [a q (by rw [hw]; simpa using e)]
   ·have f : (zdU rr xs p (zba D j))[q]? = none:=ye (by simp [zdU]; omega)
    have b : (zdU rr xs p D)[q]? = none:=ye (by simp [zdU]; omega);rw [f];split
    ·rw [if_neg (by simp [zdU]; omega)]
    ·exact b.symm
 | no => exact yr fun q _ => a q (by simp [writes])
 | loc => exact yr fun q _ => a q (by simp [writes])
theorem zBU (S : zhg P Cf) (C : Chk P κ nt gops xs ms p) (m : ∀ i x,xs[i]? = some x → step Cf (rr i) x = some (rr (i + 1))) (h0 : (rr 0).rs = []) : Local P κ nt gops xs (za6 rr) (zdU rr xs p) (zp3 rr xs p) p b l:=by
 intro j o x D g w a next Q X ho E aB hE M aU R0 F k
 have aT : p ≤ xs.length:=by rw [C.len]; exact C.p_le
 obtain ⟨c1,c2,c3,c4,_⟩:=zll (C.pre j X) ho E;have hA : ∀ i,Reach gops j i → D i = true:=fun i h => za2 M h hE
 have hB : ∀ i,Reach gops i j → D i = false:=fun i h => by
  cases hi : D i with
  | false => rfl
  | true =>
    have:=za2 M h (M i hi);rw [aB] at this;cases this
 let r' : R:=⟨(yg j).reverse.map (za6 rr),zdU rr xs p D,zp3 rr xs p D,b,l⟩
 have aM:=znK m h0 j (by omega);obtain ⟨_,aK⟩:=zgr C.w m j (Nat.le_of_lt X)
 have J : ∀ y ∈ zeQ x,r'.get y = (rr j).get y:=fun y hy => by
  cases y with
  | l d => show ((yg j).reverse.map (za6 rr)).getD d vun = (rr j).rs.getD d vun; rw [aM]
  | c v => rfl
  | s q =>
    show (zdU rr xs p D).getD q vun = (rr j).env.getD q vun
    rw [zgP C.w m,aK];unfold zg4;split
    ·rename_i i hi
     obtain ⟨aQ,x',aI,hw⟩:=zgw hi
     have N : zfC q x = true:=by
      unfold zfC;rw [List.any_eq_true];exact ⟨_,hy,by simp⟩
     have : D i = decide (i < j):=by
      rcases yl i j with G | rfl | G
      ·rcases (C.pair G X aI E).1 with h | h
       ·exfalso
        have:=h.2;unfold zgn at this;rw [hw] at this;simp [N] at this
       ·rw [hA i h]; simp [G]
      ·rw [aB]; simp
      ·rcases (C.pair G aQ E aI).1 with h | h
       ·exfalso
        have:=h.2;unfold zgn at this;rw [hw] at this;simp [N] at this
       ·rw [hB i h]; simp; omega
     simp only [this]
    ·rfl
 have G : ∀ y ∈ zeQ x,((rr j).get y).lt (zp3 rr xs p D).length = true:=fun y hy => by
  rw [← J y hy];have hu:=c4 y hy
  cases y with
  | l d =>
    simp only [zwt] at hu;split at hu
    ·rename_i t ht
     exact zoP _ _ (F.lc d t ht hu)
    ·cases hu
  | s q =>
    by_cases hq : q < κ.length
    ·exact zoP _ _ (F.env q _ (ya hq))
    ·have hl:=F.len
     have : r'.get (.s q) = vun:=by
      show (zdU rr xs p D).getD q vun = vun
      rw [yb,ye (by simp only at hl; omega)];rfl
     rw [this];rfl
  | c v => exact V.lt_mono (Nat.zero_le _) v hu
 have finish : ∀ {v : V} {σ1 : zd},rr (j + 1) = ((rr j).at σ1).put x.dst v → zp3 rr xs p (zba D j) = σ1 → (r'.at σ1).put x.dst v = ⟨za6 rr j :: (yg j).reverse.map (za6 rr),zdU rr xs p (zba D j),zp3 rr xs p (zba D j),b,l⟩:=fun {v σ1} z B => by
  have he:=zpG C.w m (D:=D) X E z;have L : za6 rr j = (((rr j).at σ1).put x.dst v).rs.headD vun:=by unfold za6; rw [z]
  rw [he,B,L];cases x.dst <;> rfl
 by_cases hc : zaS x.op ≤ 2
 ·
  have O : (zaS x.op = 1 → SameRow (zp3 rr xs p D).length (rr j).st r'.st) ∧ (zaS x.op = 2 → Same (zp3 rr xs p D).length (rr j).st r'.st):=by
   show (zaS x.op = 1 → SameRow (zp3 rr xs p D).length (rr j).st (zp3 rr xs p D)) ∧ (zaS x.op = 2 → Same (zp3 rr xs p D).length (rr j).st (zp3 rr xs p D))
   unfold zp3;have aN:=zom (xs:=xs) D p;rcases yi j (zeI xs D p) with hm | hm
   ·
    rcases zop (xs:=xs) D p with h | ⟨e,he,I,aD⟩
    ·omega
    ·have f : ∀ i,j ≤ i → i < zeI xs D p → cls xs i ≤ 2 ∨ (free (zaS x.op) (cls xs i) = true):=fun i z B => by
      rcases yi (cls xs i) 3 with h | h
      ·exact .inl (by omega)
      ·have aS : j ≠ i:=fun e' => by subst e'; rw [zhA E] at h; omega
       have A : xs[i]? = some (xs[i]'(by omega)):=ya (by omega)
       have aP : D i = true:=by
        rcases yi i e with aJ | aJ
        ·have K : xs[e]? = some (xs[e]'(by omega)):=ya (by omega)
         rcases (C.pair aJ (by omega) A K).1 with W | U
         ·have:=zsa W.1
          rw [zhA A] at h;rw [zhA K] at aD;omega
         ·exact za2 M U (M e I)
        ·have : i = e:=by omega
         rw [this]; exact I
       rcases (C.pair (by omega : j < i) (by omega) E A).1 with W | U
       ·exact .inr (by rw [zhA A]; exact W.1)
       ·have:=hB i U
        rw [aP] at this;cases this
     obtain ⟨n,hn⟩ : ∃ n,zeI xs D p = j + n:=⟨zeI xs D p - j,by omega⟩;rw [hn];refine ⟨fun aC => (zmj m n (by omega) fun i z B => ?_).2.1 _,fun Y => ?_⟩
     ·rcases f i z (by omega) with h | h
      ·omega
      ·exact zwc (.inl (by rw [← aC]; exact h))
     ·obtain ⟨os,aA⟩:=zl9 m (a:=j) n (by omega) fun i z B => by
       rcases f i z (by omega) with h | h
       ·exact .inl h
       ·exact zvW (.inl (by rw [← Y]; exact h))
      rw [aA];exact ⟨fun id o _ ho => by rw [yd (zb ho)]; exact ho⟩
   ·
    have f : ∀ i,zeI xs D p ≤ i → i < j → cls xs i ≤ 2 ∨ free (cls xs i) (zaS x.op) = true:=fun i z B => by
     rcases yi (cls xs i) 3 with h | h
     ·exact .inl (by omega)
     ·have A : xs[i]? = some (xs[i]'(by omega)):=ya (by omega)
      have aF:=zhe (xs:=xs) D p i z (by omega);rcases (C.pair B X A E).1 with W | U
      ·exact .inr (by rw [zhA A]; exact W.1)
      ·exact absurd ⟨hA i U,h⟩ aF
    obtain ⟨n,hn⟩ : ∃ n,j = zeI xs D p + n:=⟨j - zeI xs D p,by omega⟩;have e1 : (rr j).st = (rr (zeI xs D p + n)).st:=(by rw [← hn]);rw [e1];refine ⟨fun aC => (zmj m n (by omega) fun i z B => ?_).2.2 _ (yo _),fun Y => ?_⟩
    ·rcases f i z (by omega) with h | h
     ·omega
     ·exact zwc (.inr (by rw [← aC]; exact h))
    ·obtain ⟨os,aA⟩:=zl9 m (a:=zeI xs D p) n (by omega) fun i z B => by
      rcases f i z (by omega) with h | h
      ·exact .inl h
      ·exact zvW (.inr (by rw [← Y]; exact h))
     rw [aA];exact ⟨fun id o aO ho => by rw [yd aO] at ho; exact ho⟩
  obtain ⟨v,z,B⟩:=zfK (r':=r') hc J G O.1 O.2 (m j x E);have hq : ¬ 3 ≤ cls xs j:=by rw [zhA E]; omega
  have Z : zp3 rr xs p (zba D j) = zp3 rr xs p D:=by unfold zp3; rw [zpQ hq]
  have aL : r'.put x.dst v = ⟨za6 rr j :: (yg j).reverse.map (za6 rr),zdU rr xs p (zba D j),zp3 rr xs p (zba D j),b,l⟩:=by
   have he:=zpG C.w m (D:=D) (σ1:=(rr j).st) X E (by rw [z]; rfl);have L : za6 rr j = ((rr j).put x.dst v).rs.headD vun:=(by unfold za6; rw [z]);rw [he,Z,L];cases x.dst <;> rfl
  rw [aL] at B;exact zeB (r:=r') S R0 F c1 c2 c3 B (fun g' w' u H R1 _ F1 => k g' w' u H R1 F1) (fun _ h => h)
 ·
  have aH : 3 ≤ cls xs j:=by rw [zhA E]; omega
  have aN:=zom (xs:=xs) D p
  have aR : zeI xs D p ≤ j:=by
   rcases zop (xs:=xs) D p with h | ⟨e,he,I,aD⟩
   ·omega
   ·rcases yl e j with h | h | h
    ·omega
    ·rw [h,aB] at I; cases I
    ·have K : xs[e]? = some (xs[e]'(by omega)):=ya (by omega)
     rcases (C.pair h (by omega) E K).1 with W | U
     ·have:=zsa W.1
      rw [zhA K] at aD;omega
     ·have:=hB e U
      rw [I] at this;cases this
  have aF : ∀ i,zeI xs D p ≤ i → i < j → ¬ 3 ≤ cls xs i:=fun i z B h => by
   have A : xs[i]? = some (xs[i]'(by omega)):=ya (by omega);have hn:=zhe (xs:=xs) D p i z (by omega);rcases (C.pair B X A E).1 with W | U
   ·have:=zsa W.1
    rw [zhA A] at h;omega
   ·exact hn ⟨hA i U,h⟩
  have O : r'.st = (rr j).st:=by
   show (rr (zeI xs D p)).st = (rr j).st
   obtain ⟨n,hn⟩ : ∃ n,j = zeI xs D p + n:=⟨j - zeI xs D p,by omega⟩;have:=zov m (a:=zeI xs D p) n (by omega) fun i z B => aF i z (by omega);rw [← hn] at this;exact this.symm
  obtain ⟨v,σ1,z,B,_⟩:=zrO (r':=r') J O (m j x E)
  have aE : zeI xs (zba D j) p = j + 1:=zt5 aH p X fun i h3 h4 h5 => by
   have:=zhe (xs:=xs) D p i (by omega) h4;exact this h5
  have aG : zp3 rr xs p (zba D j) = σ1:=by
   unfold zp3;rw [aE,z,zeZ];rfl
  rw [finish z aG] at B;exact zeB (r:=r') S R0 F c1 c2 c3 B (fun g' w' u H R1 _ F1 => k g' w' u H R1 F1) (fun _ h => h)
theorem zDv (hm : P.follows .mixedOrders = true) (Cf : zae) (S : zhg P Cf) (κ : List Tmp) (nt id : Nat) (gops : Array Go.Oper) (xs : List Oper) (y : zsp P κ nt gops xs = true) (r r1 : R) (E : r.rs = []) (m : steps Cf xs r = some r1) : zAr P κ nt id gops r r1:=by
 intro g w a Q X F u;obtain ⟨ms,p,C⟩:=zFf y;obtain ⟨rr,z,U,d⟩:=zlZ xs r r1 m;have I : (rr 0).rs = []:=by rw [z]; exact E
 have B : p ≤ xs.length:=by rw [C.len]; exact C.p_le
 refine wp_region_any hm ?_;obtain ⟨J,N⟩:=drawn X 1
 have c : ∀ i,Dof (yj gops.size false) i = false:=fun i => by
  unfold Dof;rw [Array.getD_eq_getD_getElem?,Array.getElem?_replicate];split <;> rfl
 have f : zp3 rr xs p (Dof (yj gops.size false)) = r.st:=by
  unfold zp3;rcases zop (xs:=xs) (Dof (yj gops.size false)) p with h | ⟨e,_,h,_⟩
  ·rw [h,z]
  ·rw [c] at h; cases h
 have o : ∀ q,(zdU rr xs p (Dof (yj gops.size false))).getD q vun = r.env.getD q vun:=fun q => by
  rw [zgP C.w d];unfold zg4;split <;> simp [c,z]
 have s : ∀ g' w' A loc,Ext g w r.st g' w' (rr gops.size).st → Rel g' w' (rr gops.size).st → Fr κ loc nt g' w' (rr gops.size) A → Q .normal A w':=fun g' w' A loc H G L => by
  rw [← C.len,U] at H G L;exact u g' w' A loc H G L
 refine zu6 (b:=0) (l:=0) (v:=za6 rr) (envD:=zdU rr xs p) (σD:=zp3 rr xs p) (g0:=g) (w0:=w) (σ0:=r.st) (rr:=rr) S C.plan (zBU S C d I) d (znK d I p B) (fun D => by simp [zdU,z,F.len]) F.nd F.bd (fun D x => ⟨?_,?_⟩) s gops.size (yj gops.size false) g (w.drewN 1) a (by simp) (fun i _ => c i) (fun j K => by rw [c] at K; cases K) ?_ ⟨?_,?_,F.size,F.df,fun i t W => ?_,fun i t _ x => by rw [c] at x; cases x⟩
 ·
  unfold zp3;have aA:=zom (xs:=xs) D p;obtain ⟨n,Z⟩ : ∃ n,p = zeI xs D p + n:=⟨p - zeI xs D p,by omega⟩;have:=zov d (a:=zeI xs D p) n (by omega) fun i O h2 h => zhe (xs:=xs) D p i O (by omega) ⟨by rw [x]; simp; omega,h⟩;rw [← Z] at this;exact this.symm
 ·
  obtain ⟨q1,M⟩:=zgr C.w d p (yo _);refine yt fun q => ?_
  by_cases V : q < (rr 0).env.length
  ·have e1:=zgP (D:=D) (q:=q) C.w d
   have e2:=M q
   have e3 : zg4 rr xs p D q = zg4 rr xs p (fun k => decide (k < p)) q:=by
    congr 1
    funext k
    exact x k
   rw [e3,← e2] at e1;rw [yb,yb] at e1;have Y : q < (zdU rr xs p D).length:=(by simpa [zdU] using V);have l2 : q < (rr p).env.length:=(by omega);rw [ya Y,ya l2] at e1 ⊢;simpa using e1
  ·rw [ye (by simp [zdU]; omega),ye (by omega)]
 ·
  unfold left;exact Nat.le_trans (List.length_filter_le _ _) (by simp)
 ·rw [f]; exact J
 ·rw [f]; exact N
 ·rw [f,o]
  exact J.zf _ _ (F.env i t W)
end
end Go.A

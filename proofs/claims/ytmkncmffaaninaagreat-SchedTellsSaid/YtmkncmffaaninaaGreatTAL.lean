/- A part of the proof of SchedTells. Conditions: none. -/
import Derived.Test.YtmkncmffaaninaaGreatTAK
set_option linter.all false
open List renaming getElem?_eq_getElem → ya,getD_eq_getElem?_getD → yb,getElem?_append_left → yd,getElem?_eq_none → ye,all_eq_true → yf,range → yg,getElem?_map → yn,filterMap_cons → yp,getElem?_range → yq,map_congr_left → yr,mem_cons → ys,ext_getElem? → yt
open Bool renaming and_eq_true → yc,or_eq_true → yh
open Nat renaming lt_or_ge → yi,lt_trichotomy → yl,add_assoc → ym,le_refl → yo
open Array renaming replicate → yj,getElem?_eq_some_iff → yk
open Option renaming map_some → yu
namespace Go.A
def zrR (ms : List Nat) : List Nat → Nat → Nat
 | [],s => s
 | i :: es,s => zrR ms es (s ||| (2 ^ i ||| ms.getD i 0))
def znG : List Go.Oper → List Nat → List Nat
 | [],acc => acc
 | o :: os,acc => znG os (acc ++ [zrR acc (zyH o) 0])
def zjD (gops : Array Go.Oper) (ms : List Nat) : Bool :=
 (yg gops.size).all fun j => (ms.getD j 0 == zrR ms (zaF gops j) 0) && (zaF gops j).all fun i => decide (i < j)
def bit (ms : List Nat) (j i : Nat) : Bool:=(ms.getD j 0).testBit i
theorem zrK {ms : List Nat} {i : Nat} : ∀ {es : List Nat} {s : Nat},(zrR ms es s).testBit i = true → s.testBit i = true ∨ ∃ e ∈ es,e = i ∨ bit ms e i = true
 | [],s,h => .inl h
 | e :: es,s,h => by
   simp only [zrR] at h;rcases zrK h with h | ⟨b,a,h⟩
   ·simp only [Nat.testBit_or,yh,Nat.testBit_two_pow,decide_eq_true_eq] at h
    rcases h with h | h | h
    ·exact .inl h
    ·exact .inr ⟨e,by simp,.inl h⟩
    ·exact .inr ⟨e,by simp,.inr h⟩
   ·exact .inr ⟨b,by simp [a],h⟩
theorem zly {gops : Array Go.Oper} {ms : List Nat} (h : zjD gops ms = true) {j : Nat} (a : j < gops.size) : ms.getD j 0 = zrR ms (zaF gops j) 0 ∧ ∀ i ∈ zaF gops j,i < j:=by
 unfold zjD at h;have:=yf.1 h j (by simpa using a);simp only [yc,beq_iff_eq] at this;exact ⟨this.1,fun i b => by simpa using yf.1 this.2 i b⟩
theorem zfF {gops : Array Go.Oper} {ms : List Nat} (h : zjD gops ms = true) {i : Nat} : ∀ (j : Nat),j < gops.size → bit ms j i = true → Reach gops j i:=by
 intro j
 induction j using Nat.strongRecOn with
 | _ j ih =>
   intro c a;obtain ⟨d,b⟩:=zly h c;unfold bit at a;rw [d] at a;rcases zrK a with a | ⟨e,he,a⟩
   ·simp at a
   ·rcases a with rfl | a
    ·exact .edge he
    ·exact .more he (ih e (b e he) (by have:=b e he; omega) a)
def free (c c' : Nat) : Bool:=c == 0 || c' == 0 || (decide (c ≤ 2) && decide (c' ≤ 2)) || (c == 1 && c' == 3) || (c == 3 && c' == 1) || (decide (c ≤ 2) && c' == 4) || (c == 4 && decide (c' ≤ 2))
def writes : Oper → Option Nat
 | ⟨.slot q,_,_⟩ => some q
 | _ => none
def zgh (q : Nat) (x : Oper) : Bool:=(zfu x).any fun
 | .s q' => q' == q
 | _ => false
def zhf (x y : Oper) : Bool :=
 (match writes x with
  | some q => !zgh q y && (match writes y with
    | some q' => q' != q
    | none => true)
  | none => true) &&
 (match writes y with
  | some q => !zgh q x
  | none => true)
def cls (xs : List Oper) (j : Nat) : Nat:=match xs[j]? with
 | some x => za5 x.op
 | none => 0
def zyP (loc : List (Option Tmp)) : X → Bool
 | .l d => match loc[d]? with
   | some (some t) => (loc.take d).all (· != some t)
   | _ => false
 | .s _ => true
 | .c v => v.lt 0
def zww (ms : List Nat) (xs : List Oper) (i j : Nat) : Bool:=match xs[i]?,xs[j]? with
 | some x,some y => ((free (za5 x.op) (za5 y.op) && zhf x y) || bit ms j i) && (match writes x,writes y with
   | some q,some q' => q != q'
   | _,_ => true)
 | _,_ => false
def zwO (P : Program) (κ : List Tmp) (nt : Nat) (gops : Array Go.Oper) (xs : List Oper) (ms : List Nat) (j : Nat) : Bool:=match gops[j]?,xs[j]? with
 | some o,some x => okD κ nt o.dst x.dst && zgz κ (zga gops xs j) gops o.guard x.guard && znx P κ (zga gops xs j) o x.dst x.op && (zfu x).all (zyP (zga gops xs j)) && (yg j).all fun i => zww ms xs i j
 | _,_ => false
def zjx (P : Program) (κ : List Tmp) (nt : Nat) (gops : Array Go.Oper) (xs : List Oper) (ms : List Nat) (j : Nat) : Bool:=match gops[j]?,xs[j]? with
 | some o,some x => okD κ nt o.dst x.dst && zgz κ (ziy gops xs j) gops o.guard x.guard && znx P κ (ziy gops xs j) o x.dst x.op && (yg j).all fun i => bit ms j i
 | _,_ => false
def zpq (ms : List Nat) : Nat → Nat
 | 0 => 0
 | n + 1 => if (yg n).all (fun i => bit ms n i) then zpq ms n else n + 1
def zF1 (gops : Array Go.Oper) (xs : List Oper) (p : Nat) : List Tmp:=(yg p).filterMap (lo gops xs)
def zsQ (P : Program) : List Tmp → Nat → Array Go.Oper → List Oper → Bool:=fun κ nt gops xs =>
 let ms:=znG gops.toList []
 let p:=zpq ms gops.size
 zjD gops ms && xs.length == gops.size && decide (p ≤ gops.size) && zkG (zF1 gops xs p) && (yg p).all (zwO P κ nt gops xs ms) && (yg gops.size).all fun j => decide (j < p) || zjx P κ nt gops xs ms j
section
variable {P : Program} {κ : List Tmp} {nt : Nat} {gops : Array Go.Oper} {xs : List Oper} {ms : List Nat} {p : Nat}
theorem zlq : ∀ {l : List Nat},zkG (l.filterMap (lo gops xs)) = true → l.Nodup → ∀ i ∈ l,∀ j ∈ l,∀ t,lo gops xs i = some t → lo gops xs j = some t → i = j
 | [],_,_,i,hi,_,_,_,_,_ => by simp at hi
 | x :: l,h,hn,i,hi,j,hj,t,h1,h2 => by
   rw [List.nodup_cons] at hn
   have c : zkG (l.filterMap (lo gops xs)) = true:=by
    rw [yp] at h;split at h
    ·exact h
    ·simp only [zkG,yc] at h; exact h.2
   have a : ∀ k ∈ l,∀ t,lo gops xs x = some t → lo gops xs k = some t → False:=fun k f t g e => by
    rw [yp,g] at h;simp only [zkG,yc,Bool.not_eq_true'] at h;have : t ∈ l.filterMap (lo gops xs):=List.mem_filterMap.2 ⟨k,f,e⟩;simp [this] at h
   rcases ys.1 hi with e1 | d
   ·rcases ys.1 hj with e2 | b
    ·rw [e1,e2]
    ·exact (a j b t (by rw [← e1]; exact h1) h2).elim
   ·rcases ys.1 hj with e2 | b
    ·exact (a i d t (by rw [← e2]; exact h2) h1).elim
    ·exact zlq c hn.2 i d j b t h1 h2
theorem zmO {j : Nat} (h : zwO P κ nt gops xs ms j = true) {o : Go.Oper} {x : Oper} (b : gops[j]? = some o) (d : xs[j]? = some x) :
  okD κ nt o.dst x.dst = true ∧ zgz κ (zga gops xs j) gops o.guard x.guard = true ∧ znx P κ (zga gops xs j) o x.dst x.op = true ∧ (∀ y ∈ zfu x,zyP (zga gops xs j) y = true) ∧ ∀ i,i < j → zww ms xs i j = true:=by
 unfold zwO at h;rw [b,d] at h;simp only [yc] at h;obtain ⟨⟨⟨⟨f,a⟩,c⟩,g⟩,e⟩:=h;exact ⟨f,a,c,fun y k => yf.1 g y k,fun i l => yf.1 e i (by simpa using l)⟩
structure Chk (P : Program) (κ : List Tmp) (nt : Nat) (gops : Array Go.Oper) (xs : List Oper) (ms : List Nat) (p : Nat) : Prop where
 masks : zjD gops ms = true
 len : xs.length = gops.size
 p_le : p ≤ gops.size
 dup : zkG (zF1 gops xs p) = true
 pre : ∀ j,j < p → zwO P κ nt gops xs ms j = true
 tail : ∀ j,p ≤ j → j < gops.size → zjx P κ nt gops xs ms j = true
theorem zGw (h : zsQ P κ nt gops xs = true) : ∃ ms p,Chk P κ nt gops xs ms p:=by
 unfold zsQ at h;simp only [yc,beq_iff_eq,decide_eq_true_eq] at h;obtain ⟨⟨⟨⟨⟨f,c⟩,d⟩,g⟩,e⟩,i⟩:=h;refine ⟨_,_,f,c,d,g,fun j b => yf.1 e j (by simpa using b),fun j b a => ?_⟩;have:=yf.1 i j (by simpa using a);simp only [yh,decide_eq_true_eq] at this;rcases this with h | h
 ·omega
 ·exact h
theorem Chk.plan (C : Chk P κ nt gops xs ms p) : Plan P κ nt gops xs p where
 len:=C.len
 p_le:=C.p_le
 back:=fun j o b i d => by
  have a : j < gops.size:=(yk.1 b).1;exact (zly C.masks a).2 i (by unfold zaF; rw [b]; exact d)
 pre:=fun j o x a b f => (zmO (C.pre j a) b f).1
 apart:=fun i j t d a g e => zlq C.dup List.nodup_range i (by simpa using d) j (by simpa using a) t g e
 tail:=fun j o x a b f => by
  have c : j < gops.size:=(yk.1 b).1;have h:=C.tail j a c;unfold zjx at h;rw [b,f] at h;simp only [yc] at h;obtain ⟨⟨⟨g,e⟩,k⟩,l⟩:=h;exact ⟨g,e,k,fun i d => zfF C.masks j c (yf.1 l i (by simpa using d))⟩
theorem Chk.pair (C : Chk P κ nt gops xs ms p) {i j : Nat} (c : i < j) (e : j < p) {x y : Oper} (g : xs[i]? = some x) (f : xs[j]? = some y) :
  ((free (za5 x.op) (za5 y.op) = true ∧ zhf x y = true) ∨ Reach gops j i) ∧ ∀ q,writes x = some q → writes y ≠ some q:=by
 have a : j < gops.size:=Nat.lt_of_lt_of_le e C.p_le;have h:=(zmO (C.pre j e) (Array.getElem?_eq_getElem a) f).2.2.2.2 i c;unfold zww at h;rw [g,f] at h;simp only [yc,yh] at h;obtain ⟨l,d⟩:=h;refine ⟨l.imp id fun h => zfF C.masks j a h,fun q k b => ?_⟩;rw [k,b] at d;simp at d
variable {Cf : zai} {rr : Nat → R}
def zbh (rr : Nat → R) (j : Nat) : V:=(rr (j + 1)).rs.headD vun
theorem znN (a : ∀ i x,xs[i]? = some x → step Cf (rr i) x = some (rr (i + 1))) {j : Nat} {x : Oper} (c : xs[j]? = some x) :
  ∃ v σ1,rr (j + 1) = ((rr j).at σ1).put x.dst v ∧ zBK (za5 x.op) (rr j).st σ1:=by
 obtain ⟨v,σ1,d,_,b⟩:=zta (r':=rr j) (fun _ _ => rfl) rfl (a j x c);exact ⟨v,σ1,d,b⟩
theorem zoM (a : ∀ i x,xs[i]? = some x → step Cf (rr i) x = some (rr (i + 1))) (b : (rr 0).rs = []) : ∀ j,j ≤ xs.length → (rr j).rs = (yg j).reverse.map (zbh rr)
 | 0,_ => by simpa using b
 | j + 1,hj => by
   have c:=zoM a b j (by omega);obtain ⟨v,σ1,d,_⟩:=znN a (ya (by omega : j < xs.length));obtain ⟨y,f⟩:=zG4 ((rr j).at σ1) xs[j].dst v;rw [List.range_succ,List.reverse_append];simp only [List.reverse_cons,List.reverse_nil,List.nil_append,List.map_append,List.map_cons,List.map_nil,List.singleton_append];have e : (rr (j + 1)).rs = y :: (rr j).rs:=(by rw [d]; exact f);have e2 : zbh rr j = y:=(by unfold zbh; rw [e]; rfl);rw [e,e2,c]
def wr (xs : List Oper) (p q : Nat) : Option Nat:=(yg p).find? fun k => match xs[k]? with
 | some x => writes x == some q
 | none => false
theorem zhc {q k : Nat} (h : wr xs p q = some k) : k < p ∧ ∃ x,xs[k]? = some x ∧ writes x = some q:=by
 unfold wr at h;have a:=List.find?_some h;have b:=List.mem_of_find?_eq_some h;refine ⟨by simpa using b,?_⟩;split at a
 ·rename_i x c; exact ⟨x,c,by simpa using a⟩
 ·cases a
structure ChkW (xs : List Oper) (p : Nat) : Prop where
 le : p ≤ xs.length
 ww : ∀ {i j : Nat},i < j → j < p → ∀ {x y : Oper},xs[i]? = some x → xs[j]? = some y → ∀ q,writes x = some q → writes y ≠ some q
theorem Chk.w (C : Chk P κ nt gops xs ms p) : ChkW xs p:=⟨by rw [C.len]; exact C.p_le,fun a b _ _ c d => (C.pair a b c d).2⟩
theorem zEa (C : ChkW xs p) {q k : Nat} {x : Oper} (c : k < p) (b : xs[k]? = some x) (hw : writes x = some q) : wr xs p q = some k:=by
 cases h : wr xs p q with
 | none =>
   unfold wr at h;rw [List.find?_eq_none] at h;have:=h k (by simpa using c);rw [b] at this;simp [hw] at this
 | some k' =>
   obtain ⟨f,g,d,e⟩:=zhc h;rcases yl k k' with a | rfl | a
   ·exact absurd e (C.ww a f b d q hw)
   ·rfl
   ·exact absurd hw (C.ww a c d b q e)
def zh1 (rr : Nat → R) (xs : List Oper) (p : Nat) (D : Nat → Bool) (q : Nat) : V:=match wr xs p q with
 | some k => if D k then (rr (k + 1)).env.getD q vun else (rr 0).env.getD q vun
 | none => (rr 0).env.getD q vun
def zer (rr : Nat → R) (xs : List Oper) (p : Nat) (D : Nat → Bool) : List V:=(yg (rr 0).env.length).map (zh1 rr xs p D)
theorem zhb (C : ChkW xs p) (c : ∀ i x,xs[i]? = some x → step Cf (rr i) x = some (rr (i + 1))) : ∀ j,j ≤ p → (rr j).env.length = (rr 0).env.length ∧ ∀ q,(rr j).env.getD q vun = zh1 rr xs p (fun k => decide (k < j)) q
 | 0,_ => ⟨rfl,fun q => by
   unfold zh1
   split <;> simp⟩
 | j + 1,hj => by
   obtain ⟨h,r⟩:=zhb C c j (by omega);have u : j < xs.length:=(by have:=C.le; omega);have s : xs[j]? = some xs[j]:=ya u;obtain ⟨v,σ1,z,_⟩:=znN c s;have a:=zFr ((rr j).at σ1) xs[j].dst v;rw [← z] at a;refine ⟨?_,fun q => ?_⟩
   ·rw [a]
    split
    ·simp [R.at,h]
    ·exact h
   ·by_cases hw : writes xs[j] = some q
    ·have w:=zEa C (by omega : j < p) s hw
     unfold zh1;rw [w];simp
    ·have b : (rr (j + 1)).env.getD q vun = (rr j).env.getD q vun:=by
      rw [a];split
      ·rename_i t n
       have f : t ≠ q:=fun e => hw (by
        subst e
        have : xs[j] = ⟨.slot t,xs[j].op,xs[j].guard⟩:=by
         cases o : xs[j] with
         | mk d op g => rw [o] at n; simp only at n; rw [n]
        rw [this]; rfl)
       simp only [yb,List.getElem?_set_ne f,R.at]
      ·rfl
     rw [b,r];unfold zh1;split
     ·rename_i k A
      obtain ⟨D,B,m,y⟩:=zhc A
      have f : k ≠ j:=fun e => by subst e; rw [s] at m; injection m with m; rw [← m] at y; exact hw y
      by_cases l : k < j
      ·simp only [decide_eq_true_eq,if_pos l,if_pos (by omega : k < j + 1)]
      ·simp only [decide_eq_true_eq,if_neg l,if_neg (by omega : ¬ k < j + 1)]
     ·rfl
theorem zhF {D : Nat → Bool} {q : Nat} (C : ChkW xs p) (b : ∀ i x,xs[i]? = some x → step Cf (rr i) x = some (rr (i + 1))) : (zer rr xs p D).getD q vun = zh1 rr xs p D q:=by
 unfold zer
 by_cases a : q < (rr 0).env.length
 ·simp [yb,a]
 ·have e0 : (rr 0).env.getD q vun = vun:=by simp [yb,a]
  have e1 : ((yg (rr 0).env.length).map (zh1 rr xs p D)).getD q vun = vun:=by simp [yb,a]
  rw [e1];unfold zh1;split
  ·rename_i k c
   obtain ⟨e,_⟩:=zhc c;have d:=(zhb C b (k + 1) (by omega)).1;split
   ·simp [yb,d,a]
   ·exact e0.symm
  ·exact e0.symm
def zfm (xs : List Oper) (D : Nat → Bool) : Nat → Nat
 | 0 => 0
 | n + 1 => if D n && decide (3 ≤ cls xs n) then n + 1 else zfm xs D n
def zrf (rr : Nat → R) (xs : List Oper) (p : Nat) (D : Nat → Bool) : zd:=(rr (zfm xs D p)).st
theorem zpF (D : Nat → Bool) : ∀ n,zfm xs D n ≤ n
 | 0 => yo _
 | n + 1 => by
   have:=zpF D n;simp only [zfm];split <;> omega
theorem zpt (D : Nat → Bool) : ∀ n,zfm xs D n = 0 ∨ ∃ k,zfm xs D n = k + 1 ∧ D k = true ∧ 3 ≤ cls xs k
 | 0 => .inl rfl
 | n + 1 => by
   simp only [zfm];split
   ·rename_i h
    simp only [yc,decide_eq_true_eq] at h;exact .inr ⟨n,rfl,h⟩
   ·exact zpt D n
theorem zhM (D : Nat → Bool) : ∀ n k,zfm xs D n ≤ k → k < n → ¬ (D k = true ∧ 3 ≤ cls xs k)
 | 0,k,_,h => by omega
 | n + 1,k,h1,h2 => by
   simp only [zfm] at h1;split at h1
   ·omega
   ·rename_i h
    rcases yi k n with c | c
    ·exact zhM D n k h1 c
    ·have : k = n:=by omega
     subst this;intro ⟨a,b⟩;exact h (by simp [a,b])
end
theorem zqe {g : G} {w : World} {σ : zd} : ∀ (v : V) (u : Value),zf g w σ v u → v.lt σ.length = true
 | .one c,u,h => by
   simp only [zf] at h;simp only [V.lt];exact zoi c u h
 | .agg cs,u,h => by
   simp only [zf] at h;obtain ⟨us,_,a⟩:=h;simp only [V.lt];exact zps cs _ a
 | .tup vs,u,h => by
   simp only [zf] at h;obtain ⟨us,_,a⟩:=h;simp only [V.lt];exact go vs _ a
 where go : ∀ (vs : List V) (us : List Value),zA g w σ vs us → V.lts σ.length vs = true
 | [],_,_ => rfl
 | v :: vs,us,h => by
   simp only [zA] at h;obtain ⟨x,xs,_,b,a⟩:=h;simp only [V.lts,yc];exact ⟨zqe v x b,go vs xs a⟩
mutual
theorem C.lt_mono {n m : Nat} (h : n ≤ m) : ∀ c : C,c.lt n = true → c.lt m = true
 | .f _,_ => by simp [C.lt]
 | .ap t _ _,hc => by simp [C.lt] at hc ⊢; omega
 | .ptr id _ _ _,hc => by simp [C.lt] at hc ⊢; omega
 | .fp _ _,_ => by simp [C.lt]
 | .own id _ _ _,hc => by simp [C.lt] at hc ⊢; omega
 | .map id,hc => by simp [C.lt] at hc ⊢; omega
 | .fn _ a b,hc => by
   simp only [C.lt,yc] at hc ⊢;exact ⟨C.lts_mono h a hc.1,C.lts_mono h b hc.2⟩
 | .un,_ => by simp [C.lt]
theorem C.lts_mono {n m : Nat} (h : n ≤ m) : ∀ cs : List C,C.lts n cs = true → C.lts m cs = true
 | [],_ => rfl
 | c :: cs,hc => by
   simp only [C.lts,yc] at hc ⊢;exact ⟨C.lt_mono h c hc.1,C.lts_mono h cs hc.2⟩
end
mutual
theorem V.lt_mono {n m : Nat} (h : n ≤ m) : ∀ c : V,c.lt n = true → c.lt m = true
 | .one c,hc => by
   simp only [V.lt] at hc ⊢;exact C.lt_mono h c hc
 | .agg cs,hc => by
   simp only [V.lt] at hc ⊢;exact C.lts_mono h cs hc
 | .tup vs,hc => by
   simp only [V.lt] at hc ⊢;exact V.lts_mono h vs hc
theorem V.lts_mono {n m : Nat} (h : n ≤ m) : ∀ cs : List V,V.lts n cs = true → V.lts m cs = true
 | [],_ => rfl
 | c :: cs,hc => by
   simp only [V.lts,yc] at hc ⊢;exact ⟨V.lt_mono h c hc.1,V.lts_mono h cs hc.2⟩
end
theorem zs5 {c a : Nat} (h : free c a = true) : c ≤ 2 ∨ a ≤ 2:=by
 unfold free at h;simp only [yh,yc,beq_iff_eq,decide_eq_true_eq] at h;omega
theorem zxs {c : Nat} (h : free 2 c = true ∨ free c 2 = true) : c ≤ 2 ∨ c = 4:=by
 unfold free at h;simp only [yh,yc,beq_iff_eq,decide_eq_true_eq] at h;omega
theorem zxj {c : Nat} (h : free 1 c = true ∨ free c 1 = true) : c ≤ 4:=by
 unfold free at h;simp only [yh,yc,beq_iff_eq,decide_eq_true_eq] at h;omega
section
variable {P : Program} {κ : List Tmp} {nt : Nat} {gops : Array Go.Oper} {xs : List Oper} {ms : List Nat} {p b l : Nat} {Cf : zai} {rr : Nat → R}
theorem zz9 (a : ∀ i x,xs[i]? = some x → step Cf (rr i) x = some (rr (i + 1))) {j : Nat} {x : Oper} (c : xs[j]? = some x) : zBK (za5 x.op) (rr j).st (rr (j + 1)).st:=by
 obtain ⟨v,σ1,d,b⟩:=znN a c;rw [d,zfH];exact b
theorem ziq {j : Nat} {x : Oper} (a : xs[j]? = some x) : cls xs j = za5 x.op:=by unfold cls; rw [a]
theorem zpy (b : ∀ i x,xs[i]? = some x → step Cf (rr i) x = some (rr (i + 1))) {a : Nat} : ∀ n,a + n ≤ xs.length → (∀ k,a ≤ k → k < a + n → ¬ 3 ≤ cls xs k) → (rr (a + n)).st = (rr a).st
 | 0,_,_ => rfl
 | n + 1,hn,h => by
   have d:=zpy b n (by omega) fun k g j => h k g (by omega);have c : xs[a + n]? = some (xs[a + n]'(by omega)):=ya (by omega);have f:=h (a + n) (by omega) (by omega);rw [ziq c] at f;rcases zz9 b c with e | e
   ·rw [← ym,e,d]
   ·rw [← ym,e.1 (by omega),d]
theorem znz (c : ∀ i x,xs[i]? = some x → step Cf (rr i) x = some (rr (i + 1))) {a : Nat} : ∀ n,a + n ≤ xs.length → (∀ k,a ≤ k → k < a + n → cls xs k ≤ 2 ∨ cls xs k = 4) → ∃ os,(rr (a + n)).st = (rr a).st ++ os
 | 0,_,_ => ⟨[],by simp⟩
 | n + 1,hn,h => by
   obtain ⟨os,d⟩:=znz c n (by omega) fun k j m => h k j (by omega);have g : xs[a + n]? = some (xs[a + n]'(by omega)):=ya (by omega);have b:=h (a + n) (by omega) (by omega);rw [ziq g] at b;rw [← ym];rcases zz9 c g with e | e
   ·exact ⟨os,by rw [e,d]⟩
   ·rcases b with b | b
    ·exact ⟨os,by rw [e.1 b,d]⟩
    ·obtain ⟨f,l⟩:=e.2.2 b
     exact ⟨os ++ f,by rw [l,d,List.append_assoc]⟩
theorem zne (j : ∀ i x,xs[i]? = some x → step Cf (rr i) x = some (rr (i + 1))) {a : Nat} : ∀ n,a + n ≤ xs.length → (∀ k,a ≤ k → k < a + n → cls xs k ≤ 4) →
  (rr a).st.length ≤ (rr (a + n)).st.length ∧ (∀ q,SameRow q (rr a).st (rr (a + n)).st) ∧ ∀ q,q ≤ (rr a).st.length → SameRow q (rr (a + n)).st (rr a).st
 | 0,_,_ => ⟨yo _,fun q => ⟨fun id b sz o _ c d => ⟨o,c,d⟩⟩,fun q _ => ⟨fun id b sz o _ c d => ⟨o,c,d⟩⟩⟩
 | n + 1,hn,h => by
   obtain ⟨y,p,m⟩:=zne j n (by omega) fun k v B => h k v (by omega);have t : xs[a + n]? = some (xs[a + n]'(by omega)):=ya (by omega);have u:=h (a + n) (by omega) (by omega);rw [ziq t] at u;rw [← ym]
   have key : (rr (a + n)).st.length ≤ (rr (a + n + 1)).st.length ∧ (∀ q,SameRow q (rr (a + n)).st (rr (a + n + 1)).st) ∧ ∀ q,q ≤ (rr (a + n)).st.length → SameRow q (rr (a + n + 1)).st (rr (a + n)).st:=by
    have same : (rr (a + n + 1)).st = (rr (a + n)).st → (rr (a + n)).st.length ≤ (rr (a + n + 1)).st.length ∧ (∀ q,SameRow q (rr (a + n)).st (rr (a + n + 1)).st) ∧ ∀ q,q ≤ (rr (a + n)).st.length → SameRow q (rr (a + n + 1)).st (rr (a + n)).st:=fun e => by
     rw [e];exact ⟨yo _,fun q => ⟨fun id b sz o _ c d => ⟨o,c,d⟩⟩,fun q _ => ⟨fun id b sz o _ c d => ⟨o,c,d⟩⟩⟩
    rcases zz9 j t with e | e
    ·exact same e
    ·rcases yi (za5 (xs[a + n]'(by omega)).op) 3 with w | w
     ·exact same (e.1 (by omega))
     ·rcases yi (za5 (xs[a + n]'(by omega)).op) 4 with z | z
      ·obtain ⟨l,g⟩:=e.2.1 (by omega)
       exact ⟨by omega,fun q => (g q).1,fun q _ => (g q).2⟩
      ·obtain ⟨os,A⟩:=e.2.2 (by omega)
       rw [A];refine ⟨by simp,fun q => ⟨fun id b sz o _ c d => ⟨o,by rw [yd (zb c)]; exact c,d⟩⟩,fun q s => ⟨fun id b sz o f c d => ⟨o,?_,d⟩⟩⟩;rw [yd (by omega)] at c;exact c
   refine ⟨by omega,fun q => ⟨fun id b sz o f c d => ?_⟩,fun q s => ⟨fun id b sz o f c d => ?_⟩⟩
   ·obtain ⟨r,l,g⟩:=(p q).row id b sz o f c d
    exact (key.2.1 q).row id b sz r f l g
   ·obtain ⟨r,l,g⟩:=(key.2.2 q (by omega)).row id b sz o f c d
    exact (m q s).row id b sz r f l g
theorem zpW {D : Nat → Bool} {j : Nat} (a : ¬ 3 ≤ cls xs j) : ∀ n,zfm xs (zbn D j) n = zfm xs D n
 | 0 => rfl
 | n + 1 => by
   simp only [zfm,zpW a n]
   by_cases h : n = j
   ·subst h
    simp [a]
   ·simp [zbn,h]
theorem zuI {D : Nat → Bool} {j : Nat} (c : 3 ≤ cls xs j) : ∀ n,j < n → (∀ k,j < k → k < n → ¬ (D k = true ∧ 3 ≤ cls xs k)) → zfm xs (zbn D j) n = j + 1
 | 0,h,_ => by omega
 | n + 1,h,hno => by
   simp only [zfm]
   by_cases e : n = j
   ·subst e
    simp [zbn,c]
   ·have b:=hno n (by omega) (by omega)
    have hu : zbn D j n = D n:=(by simp [zbn,e]);rw [hu,if_neg (by simpa using fun a => by simpa [a] using b)];exact zuI c n (by omega) fun k d f => hno k d (by omega)
theorem zqo (C : ChkW xs p) (g : ∀ i x,xs[i]? = some x → step Cf (rr i) x = some (rr (i + 1))) {D : Nat → Bool} {j : Nat} {x : Oper} (r : j < p) (m : xs[j]? = some x) {v : V} {σ1 : zd} (u : rr (j + 1) = ((rr j).at σ1).put x.dst v) :
  zer rr xs p (zbn D j) = match x.dst with
   | .slot t => (zer rr xs p D).set t v
   | _ => zer rr xs p D:=by
 have a : ∀ q,writes x ≠ some q → zh1 rr xs p (zbn D j) q = zh1 rr xs p D q:=fun q b => by
  unfold zh1;split
  ·rename_i k w
   obtain ⟨_,y,c,s⟩:=zhc w
   have h : k ≠ j:=fun e => by subst e; rw [m] at c; injection c with c; subst c; exact b s
   have : zbn D j k = D k:=(by simp [zbn,h]);rw [this]
  ·rfl
 obtain ⟨d,op,n⟩:=x
 cases d with
 | slot t =>
   have hw : writes ⟨.slot t,op,n⟩ = some t:=rfl;have l:=zEa C r m hw;refine yt fun q => ?_;rw [List.getElem?_set]
   by_cases b : q < (rr 0).env.length
   ·by_cases e : t = q
    ·subst e
     rw [if_pos rfl,if_pos (by simpa [zer] using b)];unfold zer;rw [yn,yq b];simp only [yu];unfold zh1;rw [l];have f : zbn D j j = true:=(by simp [zbn]);simp only [f,if_true];rw [u];have o:=(zhb C g j (by omega)).1;simp [R.put,R.at,yb,o,b]
    ·rw [if_neg e]
     unfold zer;rw [yn,yn,yq b];simp only [yu];rw [a q (by rw [hw]; simpa using e)]
   ·have f : (zer rr xs p (zbn D j))[q]? = none:=ye (by simp [zer]; omega)
    have c : (zer rr xs p D)[q]? = none:=ye (by simp [zer]; omega);rw [f];split
    ·rw [if_neg (by simp [zer]; omega)]
    ·exact c.symm
 | no => exact yr fun q _ => a q (by simp [writes])
 | loc => exact yr fun q _ => a q (by simp [writes])
theorem zCh (S : zh3 P Cf) (C : Chk P κ nt gops xs ms p) (m : ∀ i x,xs[i]? = some x → step Cf (rr i) x = some (rr (i + 1))) (h0 : (rr 0).rs = []) : Local P κ nt gops xs (zbh rr) (zer rr xs p) (zrf rr xs p) p b l:=by
 intro j o x D g w a next Q X ho E aE hE M aS R0 F k
 have aR : p ≤ xs.length:=by rw [C.len]; exact C.p_le
 obtain ⟨c1,c2,c3,c4,_⟩:=zmO (C.pre j X) ho E;have hA : ∀ i,Reach gops j i → D i = true:=fun i h => za7 M h hE
 have hB : ∀ i,Reach gops i j → D i = false:=fun i h => by
  cases hi : D i with
  | false => rfl
  | true =>
    have:=za7 M h (M i hi);rw [aE] at this;cases this
 let r' : R:=⟨(yg j).reverse.map (zbh rr),zer rr xs p D,zrf rr xs p D,b,l⟩
 have aP:=zoM m h0 j (by omega);obtain ⟨_,aK⟩:=zhb C.w m j (Nat.le_of_lt X)
 have L : ∀ y ∈ zfu x,r'.get y = (rr j).get y:=fun y hy => by
  cases y with
  | l d => show ((yg j).reverse.map (zbh rr)).getD d vun = (rr j).rs.getD d vun; rw [aP]
  | c v => rfl
  | s q =>
    show (zer rr xs p D).getD q vun = (rr j).env.getD q vun
    rw [zhF C.w m,aK];unfold zh1;split
    ·rename_i i hi
     obtain ⟨aO,x',aL,hw⟩:=zhc hi
     have N : zgh q x = true:=by
      unfold zgh;rw [List.any_eq_true];exact ⟨_,hy,by simp⟩
     have : D i = decide (i < j):=by
      rcases yl i j with I | rfl | I
      ·rcases (C.pair I X aL E).1 with h | h
       ·exfalso
        have:=h.2;unfold zhf at this;rw [hw] at this;simp [N] at this
       ·rw [hA i h]; simp [I]
      ·rw [aE]; simp
      ·rcases (C.pair I aO E aL).1 with h | h
       ·exfalso
        have:=h.2;unfold zhf at this;rw [hw] at this;simp [N] at this
       ·rw [hB i h]; simp; omega
     simp only [this]
    ·rfl
 have I : ∀ y ∈ zfu x,((rr j).get y).lt (zrf rr xs p D).length = true:=fun y hy => by
  rw [← L y hy];have hu:=c4 y hy
  cases y with
  | l d =>
    simp only [zyP] at hu;split at hu
    ·rename_i t ht
     exact zqe _ _ (F.lc d t ht hu)
    ·cases hu
  | s q =>
    by_cases hq : q < κ.length
    ·exact zqe _ _ (F.env q _ (ya hq))
    ·have hl:=F.len
     have : r'.get (.s q) = vun:=by
      show (zer rr xs p D).getD q vun = vun
      rw [yb,ye (by simp only at hl; omega)];rfl
     rw [this];rfl
  | c v => exact V.lt_mono (Nat.zero_le _) v hu
 have finish : ∀ {v : V} {σ1 : zd},rr (j + 1) = ((rr j).at σ1).put x.dst v → zrf rr xs p (zbn D j) = σ1 → (r'.at σ1).put x.dst v = ⟨zbh rr j :: (yg j).reverse.map (zbh rr),zer rr xs p (zbn D j),zrf rr xs p (zbn D j),b,l⟩:=fun {v σ1} z B => by
  have he:=zqo C.w m (D:=D) X E z;have J : zbh rr j = (((rr j).at σ1).put x.dst v).rs.headD vun:=by unfold zbh; rw [z]
  rw [he,B,J];cases x.dst <;> rfl
 by_cases hc : za5 x.op ≤ 2
 ·
  have O : (za5 x.op = 1 → SameRow (zrf rr xs p D).length (rr j).st r'.st) ∧ (za5 x.op = 2 → Same (zrf rr xs p D).length (rr j).st r'.st):=by
   show (za5 x.op = 1 → SameRow (zrf rr xs p D).length (rr j).st (zrf rr xs p D)) ∧ (za5 x.op = 2 → Same (zrf rr xs p D).length (rr j).st (zrf rr xs p D))
   unfold zrf;have aQ:=zpF (xs:=xs) D p;rcases yi j (zfm xs D p) with hm | hm
   ·
    rcases zpt (xs:=xs) D p with h | ⟨e,he,G,aC⟩
    ·omega
    ·have f : ∀ i,j ≤ i → i < zfm xs D p → cls xs i ≤ 2 ∨ (free (za5 x.op) (cls xs i) = true):=fun i z B => by
      rcases yi (cls xs i) 3 with h | h
      ·exact .inl (by omega)
      ·have aU : j ≠ i:=fun e' => by subst e'; rw [ziq E] at h; omega
       have A : xs[i]? = some (xs[i]'(by omega)):=ya (by omega)
       have aN : D i = true:=by
        rcases yi i e with aG | aG
        ·have K : xs[e]? = some (xs[e]'(by omega)):=ya (by omega)
         rcases (C.pair aG (by omega) A K).1 with W | U
         ·have:=zs5 W.1
          rw [ziq A] at h;rw [ziq K] at aC;omega
         ·exact za7 M U (M e G)
        ·have : i = e:=by omega
         rw [this]; exact G
       rcases (C.pair (by omega : j < i) (by omega) E A).1 with W | U
       ·exact .inr (by rw [ziq A]; exact W.1)
       ·have:=hB i U
        rw [aN] at this;cases this
     obtain ⟨n,hn⟩ : ∃ n,zfm xs D p = j + n:=⟨zfm xs D p - j,by omega⟩;rw [hn];refine ⟨fun aB => (zne m n (by omega) fun i z B => ?_).2.1 _,fun Z => ?_⟩
     ·rcases f i z (by omega) with h | h
      ·omega
      ·exact zxj (.inl (by rw [← aB]; exact h))
     ·obtain ⟨os,aF⟩:=znz m (a:=j) n (by omega) fun i z B => by
       rcases f i z (by omega) with h | h
       ·exact .inl h
       ·exact zxs (.inl (by rw [← Z]; exact h))
      rw [aF];exact ⟨fun id o _ ho => by rw [yd (zb ho)]; exact ho⟩
   ·
    have f : ∀ i,zfm xs D p ≤ i → i < j → cls xs i ≤ 2 ∨ free (cls xs i) (za5 x.op) = true:=fun i z B => by
     rcases yi (cls xs i) 3 with h | h
     ·exact .inl (by omega)
     ·have A : xs[i]? = some (xs[i]'(by omega)):=ya (by omega)
      have aA:=zhM (xs:=xs) D p i z (by omega);rcases (C.pair B X A E).1 with W | U
      ·exact .inr (by rw [ziq A]; exact W.1)
      ·exact absurd ⟨hA i U,h⟩ aA
    obtain ⟨n,hn⟩ : ∃ n,j = zfm xs D p + n:=⟨j - zfm xs D p,by omega⟩;have e1 : (rr j).st = (rr (zfm xs D p + n)).st:=(by rw [← hn]);rw [e1];refine ⟨fun aB => (zne m n (by omega) fun i z B => ?_).2.2 _ (yo _),fun Z => ?_⟩
    ·rcases f i z (by omega) with h | h
     ·omega
     ·exact zxj (.inr (by rw [← aB]; exact h))
    ·obtain ⟨os,aF⟩:=znz m (a:=zfm xs D p) n (by omega) fun i z B => by
      rcases f i z (by omega) with h | h
      ·exact .inl h
      ·exact zxs (.inr (by rw [← Z]; exact h))
     rw [aF];exact ⟨fun id o aM ho => by rw [yd aM] at ho; exact ho⟩
  obtain ⟨v,z,B⟩:=zgF (r':=r') hc L I O.1 O.2 (m j x E);have hq : ¬ 3 ≤ cls xs j:=by rw [ziq E]; omega
  have Y : zrf rr xs p (zbn D j) = zrf rr xs p D:=by unfold zrf; rw [zpW hq]
  have aJ : r'.put x.dst v = ⟨zbh rr j :: (yg j).reverse.map (zbh rr),zer rr xs p (zbn D j),zrf rr xs p (zbn D j),b,l⟩:=by
   have he:=zqo C.w m (D:=D) (σ1:=(rr j).st) X E (by rw [z]; rfl);have J : zbh rr j = ((rr j).put x.dst v).rs.headD vun:=(by unfold zbh; rw [z]);rw [he,Y,J];cases x.dst <;> rfl
  rw [aJ] at B;exact zfb (r:=r') S R0 F c1 c2 c3 B (fun g' w' u H R1 _ F1 => k g' w' u H R1 F1) (fun _ h => h)
 ·
  have aI : 3 ≤ cls xs j:=by rw [ziq E]; omega
  have aQ:=zpF (xs:=xs) D p
  have aT : zfm xs D p ≤ j:=by
   rcases zpt (xs:=xs) D p with h | ⟨e,he,G,aC⟩
   ·omega
   ·rcases yl e j with h | h | h
    ·omega
    ·rw [h,aE] at G; cases G
    ·have K : xs[e]? = some (xs[e]'(by omega)):=ya (by omega)
     rcases (C.pair h (by omega) E K).1 with W | U
     ·have:=zs5 W.1
      rw [ziq K] at aC;omega
     ·have:=hB e U
      rw [G] at this;cases this
  have aA : ∀ i,zfm xs D p ≤ i → i < j → ¬ 3 ≤ cls xs i:=fun i z B h => by
   have A : xs[i]? = some (xs[i]'(by omega)):=ya (by omega);have hn:=zhM (xs:=xs) D p i z (by omega);rcases (C.pair B X A E).1 with W | U
   ·have:=zs5 W.1
    rw [ziq A] at h;omega
   ·exact hn ⟨hA i U,h⟩
  have O : r'.st = (rr j).st:=by
   show (rr (zfm xs D p)).st = (rr j).st
   obtain ⟨n,hn⟩ : ∃ n,j = zfm xs D p + n:=⟨j - zfm xs D p,by omega⟩;have:=zpy m (a:=zfm xs D p) n (by omega) fun i z B => aA i z (by omega);rw [← hn] at this;exact this.symm
  obtain ⟨v,σ1,z,B,_⟩:=zta (r':=r') L O (m j x E)
  have aD : zfm xs (zbn D j) p = j + 1:=zuI aI p X fun i h3 h4 h5 => by
   have:=zhM (xs:=xs) D p i (by omega) h4;exact this h5
  have aH : zrf rr xs p (zbn D j) = σ1:=by
   unfold zrf;rw [aD,z,zfH];rfl
  rw [finish z aH] at B;exact zfb (r:=r') S R0 F c1 c2 c3 B (fun g' w' u H R1 _ F1 => k g' w' u H R1 F1) (fun _ h => h)
theorem zEE (hm : P.follows .mixedOrders = true) (Cf : zai) (S : zh3 P Cf) (κ : List Tmp) (nt id : Nat) (gops : Array Go.Oper) (xs : List Oper) (x : zsQ P κ nt gops xs = true) (r r1 : R) (E : r.rs = []) (m : steps Cf xs r = some r1) : zAe P κ nt id gops r r1:=by
 intro g w a Q W F u;obtain ⟨ms,p,C⟩:=zGw x;obtain ⟨rr,z,N,d⟩:=znw xs r r1 m;have K : (rr 0).rs = []:=by rw [z]; exact E
 have B : p ≤ xs.length:=by rw [C.len]; exact C.p_le
 refine wp_region_any hm ?_;obtain ⟨I,D2⟩:=drawn W 1
 have c : ∀ i,Dof (yj gops.size false) i = false:=fun i => by
  unfold Dof;rw [Array.getD_eq_getD_getElem?,Array.getElem?_replicate];split <;> rfl
 have f : zrf rr xs p (Dof (yj gops.size false)) = r.st:=by
  unfold zrf;rcases zpt (xs:=xs) (Dof (yj gops.size false)) p with h | ⟨e,_,h,_⟩
  ·rw [h,z]
  ·rw [c] at h; cases h
 have o : ∀ q,(zer rr xs p (Dof (yj gops.size false))).getD q vun = r.env.getD q vun:=fun q => by
  rw [zhF C.w d];unfold zh1;split <;> simp [c,z]
 have s : ∀ g' w' A loc,Ext g w r.st g' w' (rr gops.size).st → Rel g' w' (rr gops.size).st → Fr κ loc nt g' w' (rr gops.size) A → Q .normal A w':=fun g' w' A loc H L J => by
  rw [← C.len,N] at H L J;exact u g' w' A loc H L J
 refine zvY (b:=0) (l:=0) (v:=zbh rr) (envD:=zer rr xs p) (σD:=zrf rr xs p) (g0:=g) (w0:=w) (σ0:=r.st) (rr:=rr) S C.plan (zCh S C d K) d (zoM d K p B) (fun D => by simp [zer,z,F.len]) F.nd F.bd (fun D y => ⟨?_,?_⟩) s gops.size (yj gops.size false) g (w.drewN 1) a (by simp) (fun i _ => c i) (fun j G => by rw [c] at G; cases G) ?_ ⟨?_,?_,F.size,F.df,fun i t O => ?_,fun i t _ y => by rw [c] at y; cases y⟩
 ·
  unfold zrf;have Z:=zpF (xs:=xs) D p;obtain ⟨n,X⟩ : ∃ n,p = zfm xs D p + n:=⟨p - zfm xs D p,by omega⟩;have:=zpy d (a:=zfm xs D p) n (by omega) fun i U h2 h => zhM (xs:=xs) D p i U (by omega) ⟨by rw [y]; simp; omega,h⟩;rw [← X] at this;exact this.symm
 ·
  obtain ⟨q1,V⟩:=zhb C.w d p (yo _);refine yt fun q => ?_
  by_cases M : q < (rr 0).env.length
  ·have e1:=zhF (D:=D) (q:=q) C.w d
   have e2:=V q
   have e3 : zh1 rr xs p D q = zh1 rr xs p (fun k => decide (k < p)) q:=by
    congr 1
    funext k
    exact y k
   rw [e3,← e2] at e1;rw [yb,yb] at e1;have Y : q < (zer rr xs p D).length:=(by simpa [zer] using M);have l2 : q < (rr p).env.length:=(by omega);rw [ya Y,ya l2] at e1 ⊢;simpa using e1
  ·rw [ye (by simp [zer]; omega),ye (by omega)]
 ·
  unfold left;exact Nat.le_trans (List.length_filter_le _ _) (by simp)
 ·rw [f]; exact I
 ·rw [f]; exact D2
 ·rw [f,o]
  exact I.zf _ _ (F.env i t O)
end
end Go.A

/- A part of the proof of AliasBoth. Conditions: none. -/
import Derived.Test.YtmkncmffaaninaaGreatAAJ
set_option linter.all false
open List renaming getElem?_eq_getElem → ya,getD_eq_getElem?_getD → yb,getElem?_append_left → yd,getElem?_eq_none → ye,all_eq_true → yf,range → yg,getElem?_map → yn,filterMap_cons → yp,getElem?_range → yq,map_congr_left → yr,mem_cons → ys,ext_getElem? → yt
open Bool renaming and_eq_true → yc,or_eq_true → yh
open Nat renaming lt_or_ge → yi,lt_trichotomy → yl,add_assoc → ym,le_refl → yo
open Array renaming replicate → yj,getElem?_eq_some_iff → yk
open Option renaming map_some → yu
namespace Go.A
def zoJ (ms : List Nat) : List Nat → Nat → Nat
 | [],s => s
 | i :: es,s => zoJ ms es (s ||| (2 ^ i ||| ms.getD i 0))
def zkm : List Go.Oper → List Nat → List Nat
 | [],acc => acc
 | o :: os,acc => zkm os (acc ++ [zoJ acc (zup o) 0])
def zgE (gops : Array Go.Oper) (ms : List Nat) : Bool :=
 (yg gops.size).all fun j => (ms.getD j 0 == zoJ ms (zae gops j) 0) && (zae gops j).all fun i => decide (i < j)
def bit (ms : List Nat) (j i : Nat) : Bool:=(ms.getD j 0).testBit i
theorem zn8 {ms : List Nat} {i : Nat} : ∀ {es : List Nat} {s : Nat},(zoJ ms es s).testBit i = true → s.testBit i = true ∨ ∃ e ∈ es,e = i ∨ bit ms e i = true
 | [],s,h => .inl h
 | e :: es,s,h => by
   simp only [zoJ] at h;rcases zn8 h with h | ⟨b,a,h⟩
   ·simp only [Nat.testBit_or,yh,Nat.testBit_two_pow,decide_eq_true_eq] at h
    rcases h with h | h | h
    ·exact .inl h
    ·exact .inr ⟨e,by simp,.inl h⟩
    ·exact .inr ⟨e,by simp,.inr h⟩
   ·exact .inr ⟨b,by simp [a],h⟩
theorem zit {gops : Array Go.Oper} {ms : List Nat} (h : zgE gops ms = true) {j : Nat} (b : j < gops.size) : ms.getD j 0 = zoJ ms (zae gops j) 0 ∧ ∀ i ∈ zae gops j,i < j:=by
 unfold zgE at h;have:=yf.1 h j (by simpa using b);simp only [yc,beq_iff_eq] at this;exact ⟨this.1,fun i a => by simpa using yf.1 this.2 i a⟩
theorem zcU {gops : Array Go.Oper} {ms : List Nat} (h : zgE gops ms = true) {i : Nat} : ∀ (j : Nat),j < gops.size → bit ms j i = true → Reach gops j i:=by
 intro j
 induction j using Nat.strongRecOn with
 | _ j ih =>
   intro d a;obtain ⟨c,b⟩:=zit h d;unfold bit at a;rw [c] at a;rcases zn8 a with a | ⟨e,he,a⟩
   ·simp at a
   ·rcases a with rfl | a
    ·exact .edge he
    ·exact .more he (ih e (b e he) (by have:=b e he; omega) a)
def free (c c' : Nat) : Bool:=c == 0 || c' == 0 || (decide (c ≤ 2) && decide (c' ≤ 2)) || (c == 1 && c' == 3) || (c == 3 && c' == 1) || (decide (c ≤ 2) && c' == 4) || (c == 4 && decide (c' ≤ 2))
def writes : Oper → Option Nat
 | ⟨.slot q,_,_⟩ => some q
 | _ => none
def zdq (q : Nat) (x : Oper) : Bool:=(zcP x).any fun
 | .s q' => q' == q
 | _ => false
def zei (x y : Oper) : Bool :=
 (match writes x with
  | some q => !zdq q y && (match writes y with
    | some q' => q' != q
    | none => true)
  | none => true) &&
 (match writes y with
  | some q => !zdq q x
  | none => true)
def cls (xs : List Oper) (j : Nat) : Nat:=match xs[j]? with
 | some x => zar x.op
 | none => 0
def zvf (loc : List (Option Tmp)) : X → Bool
 | .l d => match loc[d]? with
   | some (some t) => (loc.take d).all (· != some t)
   | _ => false
 | .s _ => true
 | .c v => v.lt 0
def zr4 (ms : List Nat) (xs : List Oper) (i j : Nat) : Bool:=match xs[i]?,xs[j]? with
 | some x,some y => ((free (zar x.op) (zar y.op) && zei x y) || bit ms j i) && (match writes x,writes y with
   | some q,some q' => q != q'
   | _,_ => true)
 | _,_ => false
def ztf (P : Program) (κ : List Tmp) (nt : Nat) (gops : Array Go.Oper) (xs : List Oper) (ms : List Nat) (j : Nat) : Bool:=match gops[j]?,xs[j]? with
 | some o,some x => okD κ nt o.dst x.dst && zdS κ (zdi gops xs j) gops o.guard x.guard && zkj P κ (zdi gops xs j) o x.dst x.op && (zcP x).all (zvf (zdi gops xs j)) && (yg j).all fun i => zr4 ms xs i j
 | _,_ => false
def zgH (P : Program) (κ : List Tmp) (nt : Nat) (gops : Array Go.Oper) (xs : List Oper) (ms : List Nat) (j : Nat) : Bool:=match gops[j]?,xs[j]? with
 | some o,some x => okD κ nt o.dst x.dst && zdS κ (zfI gops xs j) gops o.guard x.guard && zkj P κ (zfI gops xs j) o x.dst x.op && (yg j).all fun i => bit ms j i
 | _,_ => false
def zlS (ms : List Nat) : Nat → Nat
 | 0 => 0
 | n + 1 => if (yg n).all (fun i => bit ms n i) then zlS ms n else n + 1
def zBA (gops : Array Go.Oper) (xs : List Oper) (p : Nat) : List Tmp:=(yg p).filterMap (lo gops xs)
def zpQ (P : Program) : List Tmp → Nat → Array Go.Oper → List Oper → Bool:=fun κ nt gops xs =>
 let ms:=zkm gops.toList []
 let p:=zlS ms gops.size
 zgE gops ms && xs.length == gops.size && decide (p ≤ gops.size) && zg7 (zBA gops xs p) && (yg p).all (ztf P κ nt gops xs ms) && (yg gops.size).all fun j => decide (j < p) || zgH P κ nt gops xs ms j
section
variable {P : Program} {κ : List Tmp} {nt : Nat} {gops : Array Go.Oper} {xs : List Oper} {ms : List Nat} {p : Nat}
theorem zis : ∀ {l : List Nat},zg7 (l.filterMap (lo gops xs)) = true → l.Nodup → ∀ i ∈ l,∀ j ∈ l,∀ t,lo gops xs i = some t → lo gops xs j = some t → i = j
 | [],_,_,i,hi,_,_,_,_,_ => by simp at hi
 | x :: l,h,hn,i,hi,j,hj,t,h1,h2 => by
   rw [List.nodup_cons] at hn
   have c : zg7 (l.filterMap (lo gops xs)) = true:=by
    rw [yp] at h;split at h
    ·exact h
    ·simp only [zg7,yc] at h; exact h.2
   have a : ∀ k ∈ l,∀ t,lo gops xs x = some t → lo gops xs k = some t → False:=fun k m t g e => by
    rw [yp,g] at h;simp only [zg7,yc,Bool.not_eq_true'] at h;have : t ∈ l.filterMap (lo gops xs):=List.mem_filterMap.2 ⟨k,m,e⟩;simp [this] at h
   rcases ys.1 hi with f | d
   ·rcases ys.1 hj with e2 | b
    ·rw [f,e2]
    ·exact (a j b t (by rw [← f]; exact h1) h2).elim
   ·rcases ys.1 hj with e2 | b
    ·exact (a i d t (by rw [← e2]; exact h2) h1).elim
    ·exact zis c hn.2 i d j b t h1 h2
theorem zi6 {j : Nat} (h : ztf P κ nt gops xs ms j = true) {o : Go.Oper} {x : Oper} (f : gops[j]? = some o) (d : xs[j]? = some x) :
  okD κ nt o.dst x.dst = true ∧ zdS κ (zdi gops xs j) gops o.guard x.guard = true ∧ zkj P κ (zdi gops xs j) o x.dst x.op = true ∧ (∀ y ∈ zcP x,zvf (zdi gops xs j) y = true) ∧ ∀ i,i < j → zr4 ms xs i j = true:=by
 unfold ztf at h;rw [f,d] at h;simp only [yc] at h;obtain ⟨⟨⟨⟨k,a⟩,g⟩,e⟩,l⟩:=h;exact ⟨k,a,g,fun y c => yf.1 e y c,fun i b => yf.1 l i (by simpa using b)⟩
structure Chk (P : Program) (κ : List Tmp) (nt : Nat) (gops : Array Go.Oper) (xs : List Oper) (ms : List Nat) (p : Nat) : Prop where
 masks : zgE gops ms = true
 len : xs.length = gops.size
 p_le : p ≤ gops.size
 dup : zg7 (zBA gops xs p) = true
 pre : ∀ j,j < p → ztf P κ nt gops xs ms j = true
 tail : ∀ j,p ≤ j → j < gops.size → zgH P κ nt gops xs ms j = true
theorem zBK (h : zpQ P κ nt gops xs = true) : ∃ ms p,Chk P κ nt gops xs ms p:=by
 unfold zpQ at h;simp only [yc,beq_iff_eq,decide_eq_true_eq] at h;obtain ⟨⟨⟨⟨⟨g,c⟩,f⟩,e⟩,d⟩,i⟩:=h;refine ⟨_,_,g,c,f,e,fun j b => yf.1 d j (by simpa using b),fun j b a => ?_⟩;have:=yf.1 i j (by simpa using a);simp only [yh,decide_eq_true_eq] at this;rcases this with h | h
 ·omega
 ·exact h
theorem Chk.plan (C : Chk P κ nt gops xs ms p) : Plan P κ nt gops xs p where
 len:=C.len
 p_le:=C.p_le
 back:=fun j o a i c => by
  have b : j < gops.size:=(yk.1 a).1;exact (zit C.masks b).2 i (by unfold zae; rw [a]; exact c)
 pre:=fun j o x b a f => (zi6 (C.pre j b) a f).1
 apart:=fun i j t c b g e => zis C.dup List.nodup_range i (by simpa using c) j (by simpa using b) t g e
 tail:=fun j o x b a f => by
  have d : j < gops.size:=(yk.1 a).1;have h:=C.tail j b d;unfold zgH at h;rw [a,f] at h;simp only [yc] at h;obtain ⟨⟨⟨g,e⟩,l⟩,k⟩:=h;exact ⟨g,e,l,fun i c => zcU C.masks j d (yf.1 k i (by simpa using c))⟩
theorem Chk.pair (C : Chk P κ nt gops xs ms p) {i j : Nat} (b : i < j) (f : j < p) {x y : Oper} (k : xs[i]? = some x) (e : xs[j]? = some y) :
  ((free (zar x.op) (zar y.op) = true ∧ zei x y = true) ∨ Reach gops j i) ∧ ∀ q,writes x = some q → writes y ≠ some q:=by
 have a : j < gops.size:=Nat.lt_of_lt_of_le f C.p_le;have h:=(zi6 (C.pre j f) (Array.getElem?_eq_getElem a) e).2.2.2.2 i b;unfold zr4 at h;rw [k,e] at h;simp only [yc,yh] at h;obtain ⟨l,d⟩:=h;refine ⟨l.imp id fun h => zcU C.masks j a h,fun q g c => ?_⟩;rw [g,c] at d;simp at d
variable {Cf : zL} {rr : Nat → R}
def zaI (rr : Nat → R) (j : Nat) : V:=(rr (j + 1)).rs.headD vun
theorem zjO (a : ∀ i x,xs[i]? = some x → step Cf (rr i) x = some (rr (i + 1))) {j : Nat} {x : Oper} (b : xs[j]? = some x) :
  ∃ v σ1,rr (j + 1) = ((rr j).at σ1).put x.dst v ∧ zxt (zar x.op) (rr j).st σ1:=by
 obtain ⟨v,σ1,d,_,c⟩:=zpN (r':=rr j) (fun _ _ => rfl) rfl (a j x b);exact ⟨v,σ1,d,c⟩
theorem zlr (a : ∀ i x,xs[i]? = some x → step Cf (rr i) x = some (rr (i + 1))) (b : (rr 0).rs = []) : ∀ j,j ≤ xs.length → (rr j).rs = (yg j).reverse.map (zaI rr)
 | 0,_ => by simpa using b
 | j + 1,hj => by
   have d:=zlr a b j (by omega);obtain ⟨v,σ1,f,_⟩:=zjO a (ya (by omega : j < xs.length));obtain ⟨y,c⟩:=zBQ ((rr j).at σ1) xs[j].dst v;rw [List.range_succ,List.reverse_append];simp only [List.reverse_cons,List.reverse_nil,List.nil_append,List.map_append,List.map_cons,List.map_nil,List.singleton_append];have e : (rr (j + 1)).rs = y :: (rr j).rs:=(by rw [f]; exact c);have e2 : zaI rr j = y:=(by unfold zaI; rw [e]; rfl);rw [e,e2,d]
def wr (xs : List Oper) (p q : Nat) : Option Nat:=(yg p).find? fun k => match xs[k]? with
 | some x => writes x == some q
 | none => false
theorem zek {q k : Nat} (h : wr xs p q = some k) : k < p ∧ ∃ x,xs[k]? = some x ∧ writes x = some q:=by
 unfold wr at h;have a:=List.find?_some h;have b:=List.mem_of_find?_eq_some h;refine ⟨by simpa using b,?_⟩;split at a
 ·rename_i x c; exact ⟨x,c,by simpa using a⟩
 ·cases a
structure ChkW (xs : List Oper) (p : Nat) : Prop where
 le : p ≤ xs.length
 ww : ∀ {i j : Nat},i < j → j < p → ∀ {x y : Oper},xs[i]? = some x → xs[j]? = some y → ∀ q,writes x = some q → writes y ≠ some q
theorem Chk.w (C : Chk P κ nt gops xs ms p) : ChkW xs p:=⟨by rw [C.len]; exact C.p_le,fun a d _ _ c b => (C.pair a d c b).2⟩
theorem zyJ (C : ChkW xs p) {q k : Nat} {x : Oper} (d : k < p) (b : xs[k]? = some x) (hw : writes x = some q) : wr xs p q = some k:=by
 cases h : wr xs p q with
 | none =>
   unfold wr at h;rw [List.find?_eq_none] at h;have:=h k (by simpa using d);rw [b] at this;simp [hw] at this
 | some k' =>
   obtain ⟨f,g,c,e⟩:=zek h;rcases yl k k' with a | rfl | a
   ·exact absurd e (C.ww a f b c q hw)
   ·rfl
   ·exact absurd hw (C.ww a d c b q e)
def zeU (rr : Nat → R) (xs : List Oper) (p : Nat) (D : Nat → Bool) (q : Nat) : V:=match wr xs p q with
 | some k => if D k then (rr (k + 1)).env.getD q vun else (rr 0).env.getD q vun
 | none => (rr 0).env.getD q vun
def zcs (rr : Nat → R) (xs : List Oper) (p : Nat) (D : Nat → Bool) : List V:=(yg (rr 0).env.length).map (zeU rr xs p D)
theorem zej (C : ChkW xs p) (f : ∀ i x,xs[i]? = some x → step Cf (rr i) x = some (rr (i + 1))) : ∀ j,j ≤ p → (rr j).env.length = (rr 0).env.length ∧ ∀ q,(rr j).env.getD q vun = zeU rr xs p (fun k => decide (k < j)) q
 | 0,_ => ⟨rfl,fun q => by
   unfold zeU
   split <;> simp⟩
 | j + 1,hj => by
   obtain ⟨l,o⟩:=zej C f j (by omega);have n : j < xs.length:=(by have:=C.le; omega);have r : xs[j]? = some xs[j]:=ya n;obtain ⟨v,σ1,z,_⟩:=zjO f r;have a:=zAT ((rr j).at σ1) xs[j].dst v;rw [← z] at a;refine ⟨?_,fun q => ?_⟩
   ·rw [a]
    split
    ·simp [R.at,l]
    ·exact l
   ·by_cases hw : writes xs[j] = some q
    ·have s:=zyJ C (by omega : j < p) r hw
     unfold zeU;rw [s];simp
    ·have b : (rr (j + 1)).env.getD q vun = (rr j).env.getD q vun:=by
      rw [a];split
      ·rename_i t w
       have h : t ≠ q:=fun e => hw (by
        subst e
        have : xs[j] = ⟨.slot t,xs[j].op,xs[j].guard⟩:=by
         cases u : xs[j] with
         | mk d op g => rw [u] at w; simp only at w; rw [w]
        rw [this]; rfl)
       simp only [yb,List.getElem?_set_ne h,R.at]
      ·rfl
     rw [b,o];unfold zeU;split
     ·rename_i k A
      obtain ⟨D,B,m,y⟩:=zek A
      have h : k ≠ j:=fun e => by subst e; rw [r] at m; injection m with m; rw [← m] at y; exact hw y
      by_cases c : k < j
      ·simp only [decide_eq_true_eq,if_pos c,if_pos (by omega : k < j + 1)]
      ·simp only [decide_eq_true_eq,if_neg c,if_neg (by omega : ¬ k < j + 1)]
     ·rfl
theorem zeL {D : Nat → Bool} {q : Nat} (C : ChkW xs p) (b : ∀ i x,xs[i]? = some x → step Cf (rr i) x = some (rr (i + 1))) : (zcs rr xs p D).getD q vun = zeU rr xs p D q:=by
 unfold zcs
 by_cases a : q < (rr 0).env.length
 ·simp [yb,a]
 ·have c : (rr 0).env.getD q vun = vun:=by simp [yb,a]
  have f : ((yg (rr 0).env.length).map (zeU rr xs p D)).getD q vun = vun:=by simp [yb,a]
  rw [f];unfold zeU;split
  ·rename_i k e
   obtain ⟨g,_⟩:=zek e;have d:=(zej C b (k + 1) (by omega)).1;split
   ·simp [yb,d,a]
   ·exact c.symm
  ·exact c.symm
def zcQ (xs : List Oper) (D : Nat → Bool) : Nat → Nat
 | 0 => 0
 | n + 1 => if D n && decide (3 ≤ cls xs n) then n + 1 else zcQ xs D n
def znN (rr : Nat → R) (xs : List Oper) (p : Nat) (D : Nat → Bool) : zb:=(rr (zcQ xs D p)).st
theorem zl9 (D : Nat → Bool) : ∀ n,zcQ xs D n ≤ n
 | 0 => yo _
 | n + 1 => by
   have:=zl9 D n;simp only [zcQ];split <;> omega
theorem zlU (D : Nat → Bool) : ∀ n,zcQ xs D n = 0 ∨ ∃ k,zcQ xs D n = k + 1 ∧ D k = true ∧ 3 ≤ cls xs k
 | 0 => .inl rfl
 | n + 1 => by
   simp only [zcQ];split
   ·rename_i h
    simp only [yc,decide_eq_true_eq] at h;exact .inr ⟨n,rfl,h⟩
   ·exact zlU D n
theorem zeZ (D : Nat → Bool) : ∀ n k,zcQ xs D n ≤ k → k < n → ¬ (D k = true ∧ 3 ≤ cls xs k)
 | 0,k,_,h => by omega
 | n + 1,k,h1,h2 => by
   simp only [zcQ] at h1;split at h1
   ·omega
   ·rename_i h
    rcases yi k n with c | c
    ·exact zeZ D n k h1 c
    ·have : k = n:=by omega
     subst this;intro ⟨a,b⟩;exact h (by simp [a,b])
end
theorem znu {g : G} {w : World} {σ : zb} : ∀ (v : V) (u : Value),ze g w σ v u → v.lt σ.length = true
 | .one c,u,h => by
   simp only [ze] at h;simp only [V.lt];exact zk9 c u h
 | .agg cs,u,h => by
   simp only [ze] at h;obtain ⟨us,_,a⟩:=h;simp only [V.lt];exact zl1 cs _ a
 | .tup vs,u,h => by
   simp only [ze] at h;obtain ⟨us,_,a⟩:=h;simp only [V.lt];exact go vs _ a
 where go : ∀ (vs : List V) (us : List Value),zv g w σ vs us → V.lts σ.length vs = true
 | [],_,_ => rfl
 | v :: vs,us,h => by
   simp only [zv] at h;obtain ⟨x,xs,_,b,a⟩:=h;simp only [V.lts,yc];exact ⟨znu v x b,go vs xs a⟩
mutual
theorem C.lt_mono {n m : Nat} (h : n ≤ m) : ∀ c : C,c.lt n = true → c.lt m = true
 | .f _,_ => by simp [C.lt]
 | .ap t _ _,hc => by simp [C.lt] at hc ⊢; omega
 | .ptr id _ _ _,hc => by simp [C.lt] at hc ⊢; omega
 | .fp _ _,_ => by simp [C.lt]
 | .own id _ _ _,hc => by simp [C.lt] at hc ⊢; omega
 | .map id,hc => by simp [C.lt] at hc ⊢; omega
 | .fn _ a b,hc => by
   simp only [C.lt,yc] at hc ⊢;exact ⟨C.lts_mono h a hc.1,C.lts_mono h b hc.2⟩
 | .un,_ => by simp [C.lt]
theorem C.lts_mono {n m : Nat} (h : n ≤ m) : ∀ cs : List C,C.lts n cs = true → C.lts m cs = true
 | [],_ => rfl
 | c :: cs,hc => by
   simp only [C.lts,yc] at hc ⊢;exact ⟨C.lt_mono h c hc.1,C.lts_mono h cs hc.2⟩
end
mutual
theorem V.lt_mono {n m : Nat} (h : n ≤ m) : ∀ c : V,c.lt n = true → c.lt m = true
 | .one c,hc => by
   simp only [V.lt] at hc ⊢;exact C.lt_mono h c hc
 | .agg cs,hc => by
   simp only [V.lt] at hc ⊢;exact C.lts_mono h cs hc
 | .tup vs,hc => by
   simp only [V.lt] at hc ⊢;exact V.lts_mono h vs hc
theorem V.lts_mono {n m : Nat} (h : n ≤ m) : ∀ cs : List V,V.lts n cs = true → V.lts m cs = true
 | [],_ => rfl
 | c :: cs,hc => by
   simp only [V.lts,yc] at hc ⊢;exact ⟨V.lt_mono h c hc.1,V.lts_mono h cs hc.2⟩
end
theorem zpP {c a : Nat} (h : free c a = true) : c ≤ 2 ∨ a ≤ 2:=by
 unfold free at h;simp only [yh,yc,beq_iff_eq,decide_eq_true_eq] at h;omega
theorem ztl {c : Nat} (h : free 2 c = true ∨ free c 2 = true) : c ≤ 2 ∨ c = 4:=by
 unfold free at h;simp only [yh,yc,beq_iff_eq,decide_eq_true_eq] at h;omega
theorem ztW {c : Nat} (h : free 1 c = true ∨ free c 1 = true) : c ≤ 4:=by
 unfold free at h;simp only [yh,yc,beq_iff_eq,decide_eq_true_eq] at h;omega
section
variable {P : Program} {κ : List Tmp} {nt : Nat} {gops : Array Go.Oper} {xs : List Oper} {ms : List Nat} {p b l : Nat} {Cf : zL} {rr : Nat → R}
theorem zwR (a : ∀ i x,xs[i]? = some x → step Cf (rr i) x = some (rr (i + 1))) {j : Nat} {x : Oper} (c : xs[j]? = some x) : zxt (zar x.op) (rr j).st (rr (j + 1)).st:=by
 obtain ⟨v,σ1,d,b⟩:=zjO a c;rw [d,zcX];exact b
theorem zfy {j : Nat} {x : Oper} (a : xs[j]? = some x) : cls xs j = zar x.op:=by unfold cls; rw [a]
theorem zl6 (b : ∀ i x,xs[i]? = some x → step Cf (rr i) x = some (rr (i + 1))) {a : Nat} : ∀ n,a + n ≤ xs.length → (∀ k,a ≤ k → k < a + n → ¬ 3 ≤ cls xs k) → (rr (a + n)).st = (rr a).st
 | 0,_,_ => rfl
 | n + 1,hn,h => by
   have d:=zl6 b n (by omega) fun k g j => h k g (by omega);have c : xs[a + n]? = some (xs[a + n]'(by omega)):=ya (by omega);have f:=h (a + n) (by omega) (by omega);rw [zfy c] at f;rcases zwR b c with e | e
   ·rw [← ym,e,d]
   ·rw [← ym,e.1 (by omega),d]
theorem zkn (c : ∀ i x,xs[i]? = some x → step Cf (rr i) x = some (rr (i + 1))) {a : Nat} : ∀ n,a + n ≤ xs.length → (∀ k,a ≤ k → k < a + n → cls xs k ≤ 2 ∨ cls xs k = 4) → ∃ os,(rr (a + n)).st = (rr a).st ++ os
 | 0,_,_ => ⟨[],by simp⟩
 | n + 1,hn,h => by
   obtain ⟨os,f⟩:=zkn c n (by omega) fun k l m => h k l (by omega);have g : xs[a + n]? = some (xs[a + n]'(by omega)):=ya (by omega);have b:=h (a + n) (by omega) (by omega);rw [zfy g] at b;rw [← ym];rcases zwR c g with e | e
   ·exact ⟨os,by rw [e,f]⟩
   ·rcases b with b | b
    ·exact ⟨os,by rw [e.1 b,f]⟩
    ·obtain ⟨d,j⟩:=e.2.2 b
     exact ⟨os ++ d,by rw [j,f,List.append_assoc]⟩
theorem zkp (j : ∀ i x,xs[i]? = some x → step Cf (rr i) x = some (rr (i + 1))) {a : Nat} : ∀ n,a + n ≤ xs.length → (∀ k,a ≤ k → k < a + n → cls xs k ≤ 4) →
  (rr a).st.length ≤ (rr (a + n)).st.length ∧ (∀ q,SameRow q (rr a).st (rr (a + n)).st) ∧ ∀ q,q ≤ (rr a).st.length → SameRow q (rr (a + n)).st (rr a).st
 | 0,_,_ => ⟨yo _,fun q => ⟨fun id b sz o _ c d => ⟨o,c,d⟩⟩,fun q _ => ⟨fun id b sz o _ c d => ⟨o,c,d⟩⟩⟩
 | n + 1,hn,h => by
   obtain ⟨v,r,p⟩:=zkp j n (by omega) fun k z B => h k z (by omega);have s : xs[a + n]? = some (xs[a + n]'(by omega)):=ya (by omega);have w:=h (a + n) (by omega) (by omega);rw [zfy s] at w;rw [← ym]
   have key : (rr (a + n)).st.length ≤ (rr (a + n + 1)).st.length ∧ (∀ q,SameRow q (rr (a + n)).st (rr (a + n + 1)).st) ∧ ∀ q,q ≤ (rr (a + n)).st.length → SameRow q (rr (a + n + 1)).st (rr (a + n)).st:=by
    have same : (rr (a + n + 1)).st = (rr (a + n)).st → (rr (a + n)).st.length ≤ (rr (a + n + 1)).st.length ∧ (∀ q,SameRow q (rr (a + n)).st (rr (a + n + 1)).st) ∧ ∀ q,q ≤ (rr (a + n)).st.length → SameRow q (rr (a + n + 1)).st (rr (a + n)).st:=fun e => by
     rw [e];exact ⟨yo _,fun q => ⟨fun id b sz o _ c d => ⟨o,c,d⟩⟩,fun q _ => ⟨fun id b sz o _ c d => ⟨o,c,d⟩⟩⟩
    rcases zwR j s with e | e
    ·exact same e
    ·rcases yi (zar (xs[a + n]'(by omega)).op) 3 with u | u
     ·exact same (e.1 (by omega))
     ·rcases yi (zar (xs[a + n]'(by omega)).op) 4 with A | A
      ·obtain ⟨l,g⟩:=e.2.1 (by omega)
       exact ⟨by omega,fun q => (g q).1,fun q _ => (g q).2⟩
      ·obtain ⟨os,y⟩:=e.2.2 (by omega)
       rw [y];refine ⟨by simp,fun q => ⟨fun id b sz o _ c d => ⟨o,by rw [yd (za c)]; exact c,d⟩⟩,fun q t => ⟨fun id b sz o f c d => ⟨o,?_,d⟩⟩⟩;rw [yd (by omega)] at c;exact c
   refine ⟨by omega,fun q => ⟨fun id b sz o f c d => ?_⟩,fun q t => ⟨fun id b sz o f c d => ?_⟩⟩
   ·obtain ⟨m,l,g⟩:=(r q).row id b sz o f c d
    exact (key.2.1 q).row id b sz m f l g
   ·obtain ⟨m,l,g⟩:=(key.2.2 q (by omega)).row id b sz o f c d
    exact (p q t).row id b sz m f l g
theorem zm7 {D : Nat → Bool} {j : Nat} (a : ¬ 3 ≤ cls xs j) : ∀ n,zcQ xs (zaJ D j) n = zcQ xs D n
 | 0 => rfl
 | n + 1 => by
   simp only [zcQ,zm7 a n]
   by_cases h : n = j
   ·subst h
    simp [a]
   ·simp [zaJ,h]
theorem zrm {D : Nat → Bool} {j : Nat} (c : 3 ≤ cls xs j) : ∀ n,j < n → (∀ k,j < k → k < n → ¬ (D k = true ∧ 3 ≤ cls xs k)) → zcQ xs (zaJ D j) n = j + 1
 | 0,h,_ => by omega
 | n + 1,h,hno => by
   simp only [zcQ]
   by_cases e : n = j
   ·subst e
    simp [zaJ,c]
   ·have b:=hno n (by omega) (by omega)
    have hu : zaJ D j n = D n:=(by simp [zaJ,e]);rw [hu,if_neg (by simpa using fun a => by simpa [a] using b)];exact zrm c n (by omega) fun k d f => hno k d (by omega)
theorem zme (C : ChkW xs p) (f : ∀ i x,xs[i]? = some x → step Cf (rr i) x = some (rr (i + 1))) {D : Nat → Bool} {j : Nat} {x : Oper} (u : j < p) (m : xs[j]? = some x) {v : V} {σ1 : zb} (o : rr (j + 1) = ((rr j).at σ1).put x.dst v) :
  zcs rr xs p (zaJ D j) = match x.dst with
   | .slot t => (zcs rr xs p D).set t v
   | _ => zcs rr xs p D:=by
 have a : ∀ q,writes x ≠ some q → zeU rr xs p (zaJ D j) q = zeU rr xs p D q:=fun q c => by
  unfold zeU;split
  ·rename_i k w
   obtain ⟨_,y,b,n⟩:=zek w
   have g : k ≠ j:=fun e => by subst e; rw [m] at b; injection b with b; subst b; exact c n
   have : zaJ D j k = D k:=(by simp [zaJ,g]);rw [this]
  ·rfl
 obtain ⟨d,op,s⟩:=x
 cases d with
 | slot t =>
   have hw : writes ⟨.slot t,op,s⟩ = some t:=rfl;have l:=zyJ C u m hw;refine yt fun q => ?_;rw [List.getElem?_set]
   by_cases c : q < (rr 0).env.length
   ·by_cases e : t = q
    ·subst e
     rw [if_pos rfl,if_pos (by simpa [zcs] using c)];unfold zcs;rw [yn,yq c];simp only [yu];unfold zeU;rw [l];have h : zaJ D j j = true:=(by simp [zaJ]);simp only [h,if_true];rw [o];have r:=(zej C f j (by omega)).1;simp [R.put,R.at,yb,r,c]
    ·rw [if_neg e]
     unfold zcs;rw [yn,yn,yq c];simp only [yu];rw [a q (by rw [hw]; simpa using e)]
   ·have h : (zcs rr xs p (zaJ D j))[q]? = none:=ye (by simp [zcs]; omega)
    have b : (zcs rr xs p D)[q]? = none:=ye (by simp [zcs]; omega);rw [h];split
    ·rw [if_neg (by simp [zcs]; omega)]
    ·exact b.symm
 | no => exact yr fun q _ => a q (by simp [writes])
 | loc => exact yr fun q _ => a q (by simp [writes])
theorem zzj (S : zen P Cf) (C : Chk P κ nt gops xs ms p) (m : ∀ i x,xs[i]? = some x → step Cf (rr i) x = some (rr (i + 1))) (h0 : (rr 0).rs = []) : Local P κ nt gops xs (zaI rr) (zcs rr xs p) (znN rr xs p) p b l:=by
 intro j o x D g w a next Q X Z E aG hE J aU R0 F k
 have aT : p ≤ xs.length:=by rw [C.len]; exact C.p_le
 obtain ⟨c1,c2,c3,c4,_⟩:=zi6 (C.pre j X) Z E;have hA : ∀ i,Reach gops j i → D i = true:=fun i h => zaA J h hE
 have hB : ∀ i,Reach gops i j → D i = false:=fun i h => by
  cases hi : D i with
  | false => rfl
  | true =>
    have:=zaA J h (J i hi);rw [aG] at this;cases this
 let r' : R:=⟨(yg j).reverse.map (zaI rr),zcs rr xs p D,znN rr xs p D,b,l⟩
 have aO:=zlr m h0 j (by omega);obtain ⟨_,aK⟩:=zej C.w m j (Nat.le_of_lt X)
 have M : ∀ y ∈ zcP x,r'.get y = (rr j).get y:=fun y hy => by
  cases y with
  | l d => show ((yg j).reverse.map (zaI rr)).getD d vun = (rr j).rs.getD d vun; rw [aO]
  | c v => rfl
  | s q =>
    show (zcs rr xs p D).getD q vun = (rr j).env.getD q vun
    rw [zeL C.w m,aK];unfold zeU;split
    ·rename_i i hi
     obtain ⟨aQ,x',aJ,hw⟩:=zek hi
     have L : zdq q x = true:=by
      unfold zdq;rw [List.any_eq_true];exact ⟨_,hy,by simp⟩
     have : D i = decide (i < j):=by
      rcases yl i j with G | rfl | G
      ·rcases (C.pair G X aJ E).1 with h | h
       ·exfalso
        have:=h.2;unfold zei at this;rw [hw] at this;simp [L] at this
       ·rw [hA i h]; simp [G]
      ·rw [aG]; simp
      ·rcases (C.pair G aQ E aJ).1 with h | h
       ·exfalso
        have:=h.2;unfold zei at this;rw [hw] at this;simp [L] at this
       ·rw [hB i h]; simp; omega
     simp only [this]
    ·rfl
 have G : ∀ y ∈ zcP x,((rr j).get y).lt (znN rr xs p D).length = true:=fun y hy => by
  rw [← M y hy];have hu:=c4 y hy
  cases y with
  | l d =>
    simp only [zvf] at hu;split at hu
    ·rename_i t ht
     exact znu _ _ (F.lc d t ht hu)
    ·cases hu
  | s q =>
    by_cases hq : q < κ.length
    ·exact znu _ _ (F.env q _ (ya hq))
    ·have hl:=F.len
     have : r'.get (.s q) = vun:=by
      show (zcs rr xs p D).getD q vun = vun
      rw [yb,ye (by simp only at hl; omega)];rfl
     rw [this];rfl
  | c v => exact V.lt_mono (Nat.zero_le _) v hu
 have finish : ∀ {v : V} {σ1 : zb},rr (j + 1) = ((rr j).at σ1).put x.dst v → znN rr xs p (zaJ D j) = σ1 → (r'.at σ1).put x.dst v = ⟨zaI rr j :: (yg j).reverse.map (zaI rr),zcs rr xs p (zaJ D j),znN rr xs p (zaJ D j),b,l⟩:=fun {v σ1} z B => by
  have he:=zme C.w m (D:=D) X E z;have K : zaI rr j = (((rr j).at σ1).put x.dst v).rs.headD vun:=by unfold zaI; rw [z]
  rw [he,B,K];cases x.dst <;> rfl
 by_cases hc : zar x.op ≤ 2
 ·
  have U : (zar x.op = 1 → SameRow (znN rr xs p D).length (rr j).st r'.st) ∧ (zar x.op = 2 → Same (znN rr xs p D).length (rr j).st r'.st):=by
   show (zar x.op = 1 → SameRow (znN rr xs p D).length (rr j).st (znN rr xs p D)) ∧ (zar x.op = 2 → Same (znN rr xs p D).length (rr j).st (znN rr xs p D))
   unfold znN;have aR:=zl9 (xs:=xs) D p;rcases yi j (zcQ xs D p) with hm | hm
   ·
    rcases zlU (xs:=xs) D p with h | ⟨e,he,I,Y⟩
    ·omega
    ·have f : ∀ i,j ≤ i → i < zcQ xs D p → cls xs i ≤ 2 ∨ (free (zar x.op) (cls xs i) = true):=fun i z B => by
      rcases yi (cls xs i) 3 with h | h
      ·exact .inl (by omega)
      ·have aS : j ≠ i:=fun e' => by subst e'; rw [zfy E] at h; omega
       have A : xs[i]? = some (xs[i]'(by omega)):=ya (by omega)
       have aN : D i = true:=by
        rcases yi i e with aH | aH
        ·have N : xs[e]? = some (xs[e]'(by omega)):=ya (by omega)
         rcases (C.pair aH (by omega) A N).1 with W | O
         ·have:=zpP W.1
          rw [zfy A] at h;rw [zfy N] at Y;omega
         ·exact zaA J O (J e I)
        ·have : i = e:=by omega
         rw [this]; exact I
       rcases (C.pair (by omega : j < i) (by omega) E A).1 with W | O
       ·exact .inr (by rw [zfy A]; exact W.1)
       ·have:=hB i O
        rw [aN] at this;cases this
     obtain ⟨n,hn⟩ : ∃ n,zcQ xs D p = j + n:=⟨zcQ xs D p - j,by omega⟩;rw [hn];refine ⟨fun aE => (zkp m n (by omega) fun i z B => ?_).2.1 _,fun aF => ?_⟩
     ·rcases f i z (by omega) with h | h
      ·omega
      ·exact ztW (.inl (by rw [← aE]; exact h))
     ·obtain ⟨os,aB⟩:=zkn m (a:=j) n (by omega) fun i z B => by
       rcases f i z (by omega) with h | h
       ·exact .inl h
       ·exact ztl (.inl (by rw [← aF]; exact h))
      rw [aB];exact ⟨fun id o _ Z => by rw [yd (za Z)]; exact Z⟩
   ·
    have f : ∀ i,zcQ xs D p ≤ i → i < j → cls xs i ≤ 2 ∨ free (cls xs i) (zar x.op) = true:=fun i z B => by
     rcases yi (cls xs i) 3 with h | h
     ·exact .inl (by omega)
     ·have A : xs[i]? = some (xs[i]'(by omega)):=ya (by omega)
      have aA:=zeZ (xs:=xs) D p i z (by omega);rcases (C.pair B X A E).1 with W | O
      ·exact .inr (by rw [zfy A]; exact W.1)
      ·exact absurd ⟨hA i O,h⟩ aA
    obtain ⟨n,hn⟩ : ∃ n,j = zcQ xs D p + n:=⟨j - zcQ xs D p,by omega⟩;have e1 : (rr j).st = (rr (zcQ xs D p + n)).st:=(by rw [← hn]);rw [e1];refine ⟨fun aE => (zkp m n (by omega) fun i z B => ?_).2.2 _ (yo _),fun aF => ?_⟩
    ·rcases f i z (by omega) with h | h
     ·omega
     ·exact ztW (.inr (by rw [← aE]; exact h))
    ·obtain ⟨os,aB⟩:=zkn m (a:=zcQ xs D p) n (by omega) fun i z B => by
      rcases f i z (by omega) with h | h
      ·exact .inl h
      ·exact ztl (.inr (by rw [← aF]; exact h))
     rw [aB];exact ⟨fun id o aP Z => by rw [yd aP] at Z; exact Z⟩
  obtain ⟨v,z,B⟩:=zdH (r':=r') hc M G U.1 U.2 (m j x E);have hq : ¬ 3 ≤ cls xs j:=by rw [zfy E]; omega
  have aC : znN rr xs p (zaJ D j) = znN rr xs p D:=by unfold znN; rw [zm7 hq]
  have aM : r'.put x.dst v = ⟨zaI rr j :: (yg j).reverse.map (zaI rr),zcs rr xs p (zaJ D j),znN rr xs p (zaJ D j),b,l⟩:=by
   have he:=zme C.w m (D:=D) (σ1:=(rr j).st) X E (by rw [z]; rfl);have K : zaI rr j = ((rr j).put x.dst v).rs.headD vun:=(by unfold zaI; rw [z]);rw [he,aC,K];cases x.dst <;> rfl
  rw [aM] at B;exact zcc (r:=r') S R0 F c1 c2 c3 B (fun g' w' u H R1 _ F1 => k g' w' u H R1 F1) (fun _ h => h)
 ·
  have aI : 3 ≤ cls xs j:=by rw [zfy E]; omega
  have aR:=zl9 (xs:=xs) D p
  have aV : zcQ xs D p ≤ j:=by
   rcases zlU (xs:=xs) D p with h | ⟨e,he,I,Y⟩
   ·omega
   ·rcases yl e j with h | h | h
    ·omega
    ·rw [h,aG] at I; cases I
    ·have N : xs[e]? = some (xs[e]'(by omega)):=ya (by omega)
     rcases (C.pair h (by omega) E N).1 with W | O
     ·have:=zpP W.1
      rw [zfy N] at Y;omega
     ·have:=hB e O
      rw [I] at this;cases this
  have aA : ∀ i,zcQ xs D p ≤ i → i < j → ¬ 3 ≤ cls xs i:=fun i z B h => by
   have A : xs[i]? = some (xs[i]'(by omega)):=ya (by omega);have hn:=zeZ (xs:=xs) D p i z (by omega);rcases (C.pair B X A E).1 with W | O
   ·have:=zpP W.1
    rw [zfy A] at h;omega
   ·exact hn ⟨hA i O,h⟩
  have U : r'.st = (rr j).st:=by
   show (rr (zcQ xs D p)).st = (rr j).st
   obtain ⟨n,hn⟩ : ∃ n,j = zcQ xs D p + n:=⟨j - zcQ xs D p,by omega⟩;have:=zl6 m (a:=zcQ xs D p) n (by omega) fun i z B => aA i z (by omega);rw [← hn] at this;exact this.symm
  obtain ⟨v,σ1,z,B,_⟩:=zpN (r':=r') M U (m j x E)
  have aD : zcQ xs (zaJ D j) p = j + 1:=zrm aI p X fun i h3 h4 h5 => by
   have:=zeZ (xs:=xs) D p i (by omega) h4;exact this h5
  have aL : znN rr xs p (zaJ D j) = σ1:=by
   unfold znN;rw [aD,z,zcX];rfl
  rw [finish z aL] at B;exact zcc (r:=r') S R0 F c1 c2 c3 B (fun g' w' u H R1 _ F1 => k g' w' u H R1 F1) (fun _ h => h)
theorem zAh (hm : P.follows .mixedOrders = true) (Cf : zL) (S : zen P Cf) (κ : List Tmp) (nt id : Nat) (gops : Array Go.Oper) (xs : List Oper) (y : zpQ P κ nt gops xs = true) (r r1 : R) (E : r.rs = []) (m : steps Cf xs r = some r1) : zx1 P κ nt id gops r r1:=by
 intro g w a Q R0 F x;obtain ⟨ms,p,C⟩:=zBK y;obtain ⟨rr,B,Z,d⟩:=zj6 xs r r1 m;have J : (rr 0).rs = []:=by rw [B]; exact E
 have G : p ≤ xs.length:=by rw [C.len]; exact C.p_le
 refine wp_region_any hm ?_;obtain ⟨K,N⟩:=drawn R0 1
 have c : ∀ i,Dof (yj gops.size false) i = false:=fun i => by
  unfold Dof;rw [Array.getD_eq_getD_getElem?,Array.getElem?_replicate];split <;> rfl
 have f : znN rr xs p (Dof (yj gops.size false)) = r.st:=by
  unfold znN;rcases zlU (xs:=xs) (Dof (yj gops.size false)) p with h | ⟨e,_,h,_⟩
  ·rw [h,B]
  ·rw [c] at h; cases h
 have o : ∀ q,(zcs rr xs p (Dof (yj gops.size false))).getD q vun = r.env.getD q vun:=fun q => by
  rw [zeL C.w d];unfold zeU;split <;> simp [c,B]
 have s : ∀ g' w' A loc,Ext g w r.st g' w' (rr gops.size).st → Rel g' w' (rr gops.size).st → Fr κ loc nt g' w' (rr gops.size) A → Q .normal A w':=fun g' w' A loc H L I => by
  rw [← C.len,Z] at H L I;exact x g' w' A loc H L I
 refine zsp (b:=0) (l:=0) (v:=zaI rr) (envD:=zcs rr xs p) (σD:=znN rr xs p) (g0:=g) (w0:=w) (σ0:=r.st) (rr:=rr) S C.plan (zzj S C d J) d (zlr d J p G) (fun D => by simp [zcs,B,F.len]) F.nd F.bd (fun D u => ⟨?_,?_⟩) s gops.size (yj gops.size false) g (w.drewN 1) a (by simp) (fun i _ => c i) (fun j M => by rw [c] at M; cases M) ?_ ⟨?_,?_,F.size,F.df,fun i t ht => ?_,fun i t _ u => by rw [c] at u; cases u⟩
 ·
  unfold znN;have aA:=zl9 (xs:=xs) D p;obtain ⟨n,O⟩ : ∃ n,p = zcQ xs D p + n:=⟨p - zcQ xs D p,by omega⟩;have:=zl6 d (a:=zcQ xs D p) n (by omega) fun i W h2 h => zeZ (xs:=xs) D p i W (by omega) ⟨by rw [u]; simp; omega,h⟩;rw [← O] at this;exact this.symm
 ·
  obtain ⟨q1,U⟩:=zej C.w d p (yo _);refine yt fun q => ?_
  by_cases X : q < (rr 0).env.length
  ·have z:=zeL (D:=D) (q:=q) C.w d
   have e2:=U q
   have Y : zeU rr xs p D q = zeU rr xs p (fun k => decide (k < p)) q:=by
    congr 1
    funext k
    exact u k
   rw [Y,← e2] at z;rw [yb,yb] at z;have V : q < (zcs rr xs p D).length:=(by simpa [zcs] using X);have l2 : q < (rr p).env.length:=(by omega);rw [ya V,ya l2] at z ⊢;simpa using z
  ·rw [ye (by simp [zcs]; omega),ye (by omega)]
 ·
  unfold left;exact Nat.le_trans (List.length_filter_le _ _) (by simp)
 ·rw [f]; exact K
 ·rw [f]; exact N
 ·rw [f,o]
  exact K.ze _ _ (F.env i t ht)
end
end Go.A

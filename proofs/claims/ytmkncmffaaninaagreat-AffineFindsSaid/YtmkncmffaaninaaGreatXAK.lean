/- A part of the proof of AffineFinds. Conditions: none. -/
import Derived.Test.YtmkncmffaaninaaGreatXAJ
set_option linter.all false
open List renaming getElem?_eq_getElem → ya,getD_eq_getElem?_getD → yb,getElem?_append_left → yd,getElem?_eq_none → ye,all_eq_true → yf,range → yg,getElem?_map → yn,filterMap_cons → yp,getElem?_range → yq,map_congr_left → yr,mem_cons → ys,ext_getElem? → yt
open Bool renaming and_eq_true → yc,or_eq_true → yh
open Nat renaming lt_or_ge → yi,lt_trichotomy → yl,add_assoc → ym,le_refl → yo
open Array renaming replicate → yj,getElem?_eq_some_iff → yk
open Option renaming map_some → yu
namespace Go.A
def zsa (ms : List Nat) : List Nat → Nat → Nat
 | [],s => s
 | i :: es,s => zsa ms es (s ||| (2 ^ i ||| ms.getD i 0))
def znH : List Go.Oper → List Nat → List Nat
 | [],acc => acc
 | o :: os,acc => znH os (acc ++ [zsa acc (zza o) 0])
def zjH (gops : Array Go.Oper) (ms : List Nat) : Bool :=
 (yg gops.size).all fun j => (ms.getD j 0 == zsa ms (zaO gops j) 0) && (zaO gops j).all fun i => decide (i < j)
def bit (ms : List Nat) (j i : Nat) : Bool:=(ms.getD j 0).testBit i
theorem zrC {ms : List Nat} {i : Nat} : ∀ {es : List Nat} {s : Nat},(zsa ms es s).testBit i = true → s.testBit i = true ∨ ∃ e ∈ es,e = i ∨ bit ms e i = true
 | [],s,h => .inl h
 | e :: es,s,h => by
   simp only [zsa] at h;rcases zrC h with h | ⟨b,a,h⟩
   ·simp only [Nat.testBit_or,yh,Nat.testBit_two_pow,decide_eq_true_eq] at h
    rcases h with h | h | h
    ·exact .inl h
    ·exact .inr ⟨e,by simp,.inl h⟩
    ·exact .inr ⟨e,by simp,.inr h⟩
   ·exact .inr ⟨b,by simp [a],h⟩
theorem zlw {gops : Array Go.Oper} {ms : List Nat} (h : zjH gops ms = true) {j : Nat} (b : j < gops.size) : ms.getD j 0 = zsa ms (zaO gops j) 0 ∧ ∀ i ∈ zaO gops j,i < j:=by
 unfold zjH at h;have:=yf.1 h j (by simpa using b);simp only [yc,beq_iff_eq] at this;exact ⟨this.1,fun i a => by simpa using yf.1 this.2 i a⟩
theorem zfo {gops : Array Go.Oper} {ms : List Nat} (h : zjH gops ms = true) {i : Nat} : ∀ (j : Nat),j < gops.size → bit ms j i = true → Reach gops j i:=by
 intro j
 induction j using Nat.strongRecOn with
 | _ j ih =>
   intro c a;obtain ⟨d,b⟩:=zlw h c;unfold bit at a;rw [d] at a;rcases zrC a with a | ⟨e,he,a⟩
   ·simp at a
   ·rcases a with rfl | a
    ·exact .edge he
    ·exact .more he (ih e (b e he) (by have:=b e he; omega) a)
def free (c c' : Nat) : Bool:=c == 0 || c' == 0 || (decide (c ≤ 2) && decide (c' ≤ 2)) || (c == 1 && c' == 3) || (c == 3 && c' == 1) || (decide (c ≤ 2) && c' == 4) || (c == 4 && decide (c' ≤ 2))
def writes : Oper → Option Nat
 | ⟨.slot q,_,_⟩ => some q
 | _ => none
def zf2 (q : Nat) (x : Oper) : Bool:=(zfa x).any fun
 | .s q' => q' == q
 | _ => false
def zhc (x y : Oper) : Bool :=
 (match writes x with
  | some q => !zf2 q y && (match writes y with
    | some q' => q' != q
    | none => true)
  | none => true) &&
 (match writes y with
  | some q => !zf2 q x
  | none => true)
def cls (xs : List Oper) (j : Nat) : Nat:=match xs[j]? with
 | some x => zbc x.op
 | none => 0
def zzI (loc : List (Option Tmp)) : X → Bool
 | .l d => match loc[d]? with
   | some (some t) => (loc.take d).all (· != some t)
   | _ => false
 | .s _ => true
 | .c v => v.lt 0
def zwP (ms : List Nat) (xs : List Oper) (i j : Nat) : Bool:=match xs[i]?,xs[j]? with
 | some x,some y => ((free (zbc x.op) (zbc y.op) && zhc x y) || bit ms j i) && (match writes x,writes y with
   | some q,some q' => q != q'
   | _,_ => true)
 | _,_ => false
def zxy (P : Program) (κ : List Tmp) (nt : Nat) (gops : Array Go.Oper) (xs : List Oper) (ms : List Nat) (j : Nat) : Bool:=match gops[j]?,xs[j]? with
 | some o,some x => okD κ nt o.dst x.dst && zgr κ (zfX gops xs j) gops o.guard x.guard && znN P κ (zfX gops xs j) o x.dst x.op && (zfa x).all (zzI (zfX gops xs j)) && (yg j).all fun i => zwP ms xs i j
 | _,_ => false
def zjE (P : Program) (κ : List Tmp) (nt : Nat) (gops : Array Go.Oper) (xs : List Oper) (ms : List Nat) (j : Nat) : Bool:=match gops[j]?,xs[j]? with
 | some o,some x => okD κ nt o.dst x.dst && zgr κ (ziE gops xs j) gops o.guard x.guard && znN P κ (ziE gops xs j) o x.dst x.op && (yg j).all fun i => bit ms j i
 | _,_ => false
def zpA (ms : List Nat) : Nat → Nat
 | 0 => 0
 | n + 1 => if (yg n).all (fun i => bit ms n i) then zpA ms n else n + 1
def zG8 (gops : Array Go.Oper) (xs : List Oper) (p : Nat) : List Tmp:=(yg p).filterMap (lo gops xs)
def ztG (P : Program) : List Tmp → Nat → Array Go.Oper → List Oper → Bool:=fun κ nt gops xs =>
 let ms:=znH gops.toList []
 let p:=zpA ms gops.size
 zjH gops ms && xs.length == gops.size && decide (p ≤ gops.size) && zj9 (zG8 gops xs p) && (yg p).all (zxy P κ nt gops xs ms) && (yg gops.size).all fun j => decide (j < p) || zjE P κ nt gops xs ms j
section
variable {P : Program} {κ : List Tmp} {nt : Nat} {gops : Array Go.Oper} {xs : List Oper} {ms : List Nat} {p : Nat}
theorem zlC : ∀ {l : List Nat},zj9 (l.filterMap (lo gops xs)) = true → l.Nodup → ∀ i ∈ l,∀ j ∈ l,∀ t,lo gops xs i = some t → lo gops xs j = some t → i = j
 | [],_,_,i,hi,_,_,_,_,_ => by simp at hi
 | x :: l,h,hn,i,hi,j,hj,t,h1,h2 => by
   rw [List.nodup_cons] at hn
   have c : zj9 (l.filterMap (lo gops xs)) = true:=by
    rw [yp] at h;split at h
    ·exact h
    ·simp only [zj9,yc] at h; exact h.2
   have a : ∀ k ∈ l,∀ t,lo gops xs x = some t → lo gops xs k = some t → False:=fun k g t f e => by
    rw [yp,f] at h;simp only [zj9,yc,Bool.not_eq_true'] at h;have : t ∈ l.filterMap (lo gops xs):=List.mem_filterMap.2 ⟨k,g,e⟩;simp [this] at h
   rcases ys.1 hi with e1 | d
   ·rcases ys.1 hj with e2 | b
    ·rw [e1,e2]
    ·exact (a j b t (by rw [← e1]; exact h1) h2).elim
   ·rcases ys.1 hj with e2 | b
    ·exact (a i d t (by rw [← e2]; exact h2) h1).elim
    ·exact zlC c hn.2 i d j b t h1 h2
theorem zmn {j : Nat} (h : zxy P κ nt gops xs ms j = true) {o : Go.Oper} {x : Oper} (f : gops[j]? = some o) (c : xs[j]? = some x) :
  okD κ nt o.dst x.dst = true ∧ zgr κ (zfX gops xs j) gops o.guard x.guard = true ∧ znN P κ (zfX gops xs j) o x.dst x.op = true ∧ (∀ y ∈ zfa x,zzI (zfX gops xs j) y = true) ∧ ∀ i,i < j → zwP ms xs i j = true:=by
 unfold zxy at h;rw [f,c] at h;simp only [yc] at h;obtain ⟨⟨⟨⟨g,l⟩,b⟩,k⟩,e⟩:=h;exact ⟨g,l,b,fun y d => yf.1 k y d,fun i a => yf.1 e i (by simpa using a)⟩
structure Chk (P : Program) (κ : List Tmp) (nt : Nat) (gops : Array Go.Oper) (xs : List Oper) (ms : List Nat) (p : Nat) : Prop where
 masks : zjH gops ms = true
 len : xs.length = gops.size
 p_le : p ≤ gops.size
 dup : zj9 (zG8 gops xs p) = true
 pre : ∀ j,j < p → zxy P κ nt gops xs ms j = true
 tail : ∀ j,p ≤ j → j < gops.size → zjE P κ nt gops xs ms j = true
theorem zHb (h : ztG P κ nt gops xs = true) : ∃ ms p,Chk P κ nt gops xs ms p:=by
 unfold ztG at h;simp only [yc,beq_iff_eq,decide_eq_true_eq] at h;obtain ⟨⟨⟨⟨⟨f,i⟩,d⟩,g⟩,e⟩,c⟩:=h;refine ⟨_,_,f,i,d,g,fun j b => yf.1 e j (by simpa using b),fun j b a => ?_⟩;have:=yf.1 c j (by simpa using a);simp only [yh,decide_eq_true_eq] at this;rcases this with h | h
 ·omega
 ·exact h
theorem Chk.plan (C : Chk P κ nt gops xs ms p) : Plan P κ nt gops xs p where
 len:=C.len
 p_le:=C.p_le
 back:=fun j o b i c => by
  have a : j < gops.size:=(yk.1 b).1;exact (zlw C.masks a).2 i (by unfold zaO; rw [b]; exact c)
 pre:=fun j o x a b f => (zmn (C.pre j a) b f).1
 apart:=fun i j t c a g e => zlC C.dup List.nodup_range i (by simpa using c) j (by simpa using a) t g e
 tail:=fun j o x a b f => by
  have d : j < gops.size:=(yk.1 b).1;have h:=C.tail j a d;unfold zjE at h;rw [b,f] at h;simp only [yc] at h;obtain ⟨⟨⟨g,e⟩,k⟩,l⟩:=h;exact ⟨g,e,k,fun i c => zfo C.masks j d (yf.1 l i (by simpa using c))⟩
theorem Chk.pair (C : Chk P κ nt gops xs ms p) {i j : Nat} (b : i < j) (f : j < p) {x y : Oper} (k : xs[i]? = some x) (e : xs[j]? = some y) :
  ((free (zbc x.op) (zbc y.op) = true ∧ zhc x y = true) ∨ Reach gops j i) ∧ ∀ q,writes x = some q → writes y ≠ some q:=by
 have a : j < gops.size:=Nat.lt_of_lt_of_le f C.p_le;have h:=(zmn (C.pre j f) (Array.getElem?_eq_getElem a) e).2.2.2.2 i b;unfold zwP at h;rw [k,e] at h;simp only [yc,yh] at h;obtain ⟨l,d⟩:=h;refine ⟨l.imp id fun h => zfo C.masks j a h,fun q g c => ?_⟩;rw [g,c] at d;simp at d
variable {Cf : zaq} {rr : Nat → R}
def zbq (rr : Nat → R) (j : Nat) : V:=(rr (j + 1)).rs.headD vun
theorem zm0 (a : ∀ i x,xs[i]? = some x → step Cf (rr i) x = some (rr (i + 1))) {j : Nat} {x : Oper} (c : xs[j]? = some x) :
  ∃ v σ1,rr (j + 1) = ((rr j).at σ1).put x.dst v ∧ zAY (zbc x.op) (rr j).st σ1:=by
 obtain ⟨v,σ1,d,_,b⟩:=ztD (r':=rr j) (fun _ _ => rfl) rfl (a j x c);exact ⟨v,σ1,d,b⟩
theorem zpe (a : ∀ i x,xs[i]? = some x → step Cf (rr i) x = some (rr (i + 1))) (b : (rr 0).rs = []) : ∀ j,j ≤ xs.length → (rr j).rs = (yg j).reverse.map (zbq rr)
 | 0,_ => by simpa using b
 | j + 1,hj => by
   have f:=zpe a b j (by omega);obtain ⟨v,σ1,d,_⟩:=zm0 a (ya (by omega : j < xs.length));obtain ⟨y,c⟩:=zHl ((rr j).at σ1) xs[j].dst v;rw [List.range_succ,List.reverse_append];simp only [List.reverse_cons,List.reverse_nil,List.nil_append,List.map_append,List.map_cons,List.map_nil,List.singleton_append];have e : (rr (j + 1)).rs = y :: (rr j).rs:=(by rw [d]; exact c);have e2 : zbq rr j = y:=(by unfold zbq; rw [e]; rfl);rw [e,e2,f]
def wr (xs : List Oper) (p q : Nat) : Option Nat:=(yg p).find? fun k => match xs[k]? with
 | some x => writes x == some q
 | none => false
theorem zg8 {q k : Nat} (h : wr xs p q = some k) : k < p ∧ ∃ x,xs[k]? = some x ∧ writes x = some q:=by
 unfold wr at h;have a:=List.find?_some h;have c:=List.mem_of_find?_eq_some h;refine ⟨by simpa using c,?_⟩;split at a
 ·rename_i x b; exact ⟨x,b,by simpa using a⟩
 ·cases a
structure ChkW (xs : List Oper) (p : Nat) : Prop where
 le : p ≤ xs.length
 ww : ∀ {i j : Nat},i < j → j < p → ∀ {x y : Oper},xs[i]? = some x → xs[j]? = some y → ∀ q,writes x = some q → writes y ≠ some q
theorem Chk.w (C : Chk P κ nt gops xs ms p) : ChkW xs p:=⟨by rw [C.len]; exact C.p_le,fun a d _ _ b c => (C.pair a d b c).2⟩
theorem zDP (C : ChkW xs p) {q k : Nat} {x : Oper} (e : k < p) (b : xs[k]? = some x) (hw : writes x = some q) : wr xs p q = some k:=by
 cases h : wr xs p q with
 | none =>
   unfold wr at h;rw [List.find?_eq_none] at h;have:=h k (by simpa using e);rw [b] at this;simp [hw] at this
 | some k' =>
   obtain ⟨f,g,c,d⟩:=zg8 h;rcases yl k k' with a | rfl | a
   ·exact absurd d (C.ww a f b c q hw)
   ·rfl
   ·exact absurd hw (C.ww a e c b q d)
def zh1 (rr : Nat → R) (xs : List Oper) (p : Nat) (D : Nat → Bool) (q : Nat) : V:=match wr xs p q with
 | some k => if D k then (rr (k + 1)).env.getD q vun else (rr 0).env.getD q vun
 | none => (rr 0).env.getD q vun
def zem (rr : Nat → R) (xs : List Oper) (p : Nat) (D : Nat → Bool) : List V:=(yg (rr 0).env.length).map (zh1 rr xs p D)
theorem zhd (C : ChkW xs p) (h : ∀ i x,xs[i]? = some x → step Cf (rr i) x = some (rr (i + 1))) : ∀ j,j ≤ p → (rr j).env.length = (rr 0).env.length ∧ ∀ q,(rr j).env.getD q vun = zh1 rr xs p (fun k => decide (k < j)) q
 | 0,_ => ⟨rfl,fun q => by
   unfold zh1
   split <;> simp⟩
 | j + 1,hj => by
   obtain ⟨l,u⟩:=zhd C h j (by omega);have n : j < xs.length:=(by have:=C.le; omega);have w : xs[j]? = some xs[j]:=ya n;obtain ⟨v,σ1,A,_⟩:=zm0 h w;have a:=zGn ((rr j).at σ1) xs[j].dst v;rw [← A] at a;refine ⟨?_,fun q => ?_⟩
   ·rw [a]
    split
    ·simp [R.at,l]
    ·exact l
   ·by_cases hw : writes xs[j] = some q
    ·have o:=zDP C (by omega : j < p) w hw
     unfold zh1;rw [o];simp
    ·have b : (rr (j + 1)).env.getD q vun = (rr j).env.getD q vun:=by
      rw [a];split
      ·rename_i t r
       have f : t ≠ q:=fun e => hw (by
        subst e
        have : xs[j] = ⟨.slot t,xs[j].op,xs[j].guard⟩:=by
         cases s : xs[j] with
         | mk d op g => rw [s] at r; simp only at r; rw [r]
        rw [this]; rfl)
       simp only [yb,List.getElem?_set_ne f,R.at]
      ·rfl
     rw [b,u];unfold zh1;split
     ·rename_i k z
      obtain ⟨D,B,m,y⟩:=zg8 z
      have f : k ≠ j:=fun e => by subst e; rw [w] at m; injection m with m; rw [← m] at y; exact hw y
      by_cases c : k < j
      ·simp only [decide_eq_true_eq,if_pos c,if_pos (by omega : k < j + 1)]
      ·simp only [decide_eq_true_eq,if_neg c,if_neg (by omega : ¬ k < j + 1)]
     ·rfl
theorem zhx {D : Nat → Bool} {q : Nat} (C : ChkW xs p) (b : ∀ i x,xs[i]? = some x → step Cf (rr i) x = some (rr (i + 1))) : (zem rr xs p D).getD q vun = zh1 rr xs p D q:=by
 unfold zem
 by_cases a : q < (rr 0).env.length
 ·simp [yb,a]
 ·have e0 : (rr 0).env.getD q vun = vun:=by simp [yb,a]
  have e1 : ((yg (rr 0).env.length).map (zh1 rr xs p D)).getD q vun = vun:=by simp [yb,a]
  rw [e1];unfold zh1;split
  ·rename_i k d
   obtain ⟨e,_⟩:=zg8 d;have c:=(zhd C b (k + 1) (by omega)).1;split
   ·simp [yb,c,a]
   ·exact e0.symm
  ·exact e0.symm
def ze8 (xs : List Oper) (D : Nat → Bool) : Nat → Nat
 | 0 => 0
 | n + 1 => if D n && decide (3 ≤ cls xs n) then n + 1 else ze8 xs D n
def zrh (rr : Nat → R) (xs : List Oper) (p : Nat) (D : Nat → Bool) : zd:=(rr (ze8 xs D p)).st
theorem zpH (D : Nat → Bool) : ∀ n,ze8 xs D n ≤ n
 | 0 => yo _
 | n + 1 => by
   have:=zpH D n;simp only [ze8];split <;> omega
theorem zpD (D : Nat → Bool) : ∀ n,ze8 xs D n = 0 ∨ ∃ k,ze8 xs D n = k + 1 ∧ D k = true ∧ 3 ≤ cls xs k
 | 0 => .inl rfl
 | n + 1 => by
   simp only [ze8];split
   ·rename_i h
    simp only [yc,decide_eq_true_eq] at h;exact .inr ⟨n,rfl,h⟩
   ·exact zpD D n
theorem zhI (D : Nat → Bool) : ∀ n k,ze8 xs D n ≤ k → k < n → ¬ (D k = true ∧ 3 ≤ cls xs k)
 | 0,k,_,h => by omega
 | n + 1,k,h1,h2 => by
   simp only [ze8] at h1;split at h1
   ·omega
   ·rename_i h
    rcases yi k n with c | c
    ·exact zhI D n k h1 c
    ·have : k = n:=by omega
     subst this;intro ⟨a,b⟩;exact h (by simp [a,b])
end
theorem zp6 {g : G} {w : World} {σ : zd} : ∀ (v : V) (u : Value),zh g w σ v u → v.lt σ.length = true
 | .one c,u,h => by
   simp only [zh] at h;simp only [V.lt];exact zn4 c u h
 | .agg cs,u,h => by
   simp only [zh] at h;obtain ⟨us,_,a⟩:=h;simp only [V.lt];exact zpx cs _ a
 | .tup vs,u,h => by
   simp only [zh] at h;obtain ⟨us,_,a⟩:=h;simp only [V.lt];exact go vs _ a
 where go : ∀ (vs : List V) (us : List Value),zO g w σ vs us → V.lts σ.length vs = true
 | [],_,_ => rfl
 | v :: vs,us,h => by
   simp only [zO] at h;obtain ⟨x,xs,_,b,a⟩:=h;simp only [V.lts,yc];exact ⟨zp6 v x b,go vs xs a⟩
mutual
theorem C.lt_mono {n m : Nat} (h : n ≤ m) : ∀ c : C,c.lt n = true → c.lt m = true
 | .f _,_ => by simp [C.lt]
 | .ap t _ _,hc => by simp [C.lt] at hc ⊢; omega
 | .ptr id _ _ _,hc => by simp [C.lt] at hc ⊢; omega
 | .fp _ _,_ => by simp [C.lt]
 | .own id _ _ _,hc => by simp [C.lt] at hc ⊢; omega
 | .map id,hc => by simp [C.lt] at hc ⊢; omega
 | .fn _ a b,hc => by
   simp only [C.lt,yc] at hc ⊢;exact ⟨C.lts_mono h a hc.1,C.lts_mono h b hc.2⟩
 | .un,_ => by simp [C.lt]
theorem C.lts_mono {n m : Nat} (h : n ≤ m) : ∀ cs : List C,C.lts n cs = true → C.lts m cs = true
 | [],_ => rfl
 | c :: cs,hc => by
   simp only [C.lts,yc] at hc ⊢;exact ⟨C.lt_mono h c hc.1,C.lts_mono h cs hc.2⟩
end
mutual
theorem V.lt_mono {n m : Nat} (h : n ≤ m) : ∀ c : V,c.lt n = true → c.lt m = true
 | .one c,hc => by
   simp only [V.lt] at hc ⊢;exact C.lt_mono h c hc
 | .agg cs,hc => by
   simp only [V.lt] at hc ⊢;exact C.lts_mono h cs hc
 | .tup vs,hc => by
   simp only [V.lt] at hc ⊢;exact V.lts_mono h vs hc
theorem V.lts_mono {n m : Nat} (h : n ≤ m) : ∀ cs : List V,V.lts n cs = true → V.lts m cs = true
 | [],_ => rfl
 | c :: cs,hc => by
   simp only [V.lts,yc] at hc ⊢;exact ⟨V.lt_mono h c hc.1,V.lts_mono h cs hc.2⟩
end
theorem ztc {c a : Nat} (h : free c a = true) : c ≤ 2 ∨ a ≤ 2:=by
 unfold free at h;simp only [yh,yc,beq_iff_eq,decide_eq_true_eq] at h;omega
theorem zxj {c : Nat} (h : free 2 c = true ∨ free c 2 = true) : c ≤ 2 ∨ c = 4:=by
 unfold free at h;simp only [yh,yc,beq_iff_eq,decide_eq_true_eq] at h;omega
theorem zyc {c : Nat} (h : free 1 c = true ∨ free c 1 = true) : c ≤ 4:=by
 unfold free at h;simp only [yh,yc,beq_iff_eq,decide_eq_true_eq] at h;omega
section
variable {P : Program} {κ : List Tmp} {nt : Nat} {gops : Array Go.Oper} {xs : List Oper} {ms : List Nat} {p b l : Nat} {Cf : zaq} {rr : Nat → R}
theorem zBv (a : ∀ i x,xs[i]? = some x → step Cf (rr i) x = some (rr (i + 1))) {j : Nat} {x : Oper} (b : xs[j]? = some x) : zAY (zbc x.op) (rr j).st (rr (j + 1)).st:=by
 obtain ⟨v,σ1,c,d⟩:=zm0 a b;rw [c,zfw];exact d
theorem zic {j : Nat} {x : Oper} (a : xs[j]? = some x) : cls xs j = zbc x.op:=by unfold cls; rw [a]
theorem zpy (b : ∀ i x,xs[i]? = some x → step Cf (rr i) x = some (rr (i + 1))) {a : Nat} : ∀ n,a + n ≤ xs.length → (∀ k,a ≤ k → k < a + n → ¬ 3 ≤ cls xs k) → (rr (a + n)).st = (rr a).st
 | 0,_,_ => rfl
 | n + 1,hn,h => by
   have d:=zpy b n (by omega) fun k g j => h k g (by omega);have c : xs[a + n]? = some (xs[a + n]'(by omega)):=ya (by omega);have f:=h (a + n) (by omega) (by omega);rw [zic c] at f;rcases zBv b c with e | e
   ·rw [← ym,e,d]
   ·rw [← ym,e.1 (by omega),d]
theorem znx (c : ∀ i x,xs[i]? = some x → step Cf (rr i) x = some (rr (i + 1))) {a : Nat} : ∀ n,a + n ≤ xs.length → (∀ k,a ≤ k → k < a + n → cls xs k ≤ 2 ∨ cls xs k = 4) → ∃ os,(rr (a + n)).st = (rr a).st ++ os
 | 0,_,_ => ⟨[],by simp⟩
 | n + 1,hn,h => by
   obtain ⟨os,f⟩:=znx c n (by omega) fun k l m => h k l (by omega);have g : xs[a + n]? = some (xs[a + n]'(by omega)):=ya (by omega);have b:=h (a + n) (by omega) (by omega);rw [zic g] at b;rw [← ym];rcases zBv c g with e | e
   ·exact ⟨os,by rw [e,f]⟩
   ·rcases b with b | b
    ·exact ⟨os,by rw [e.1 b,f]⟩
    ·obtain ⟨d,j⟩:=e.2.2 b
     exact ⟨os ++ d,by rw [j,f,List.append_assoc]⟩
theorem znl (j : ∀ i x,xs[i]? = some x → step Cf (rr i) x = some (rr (i + 1))) {a : Nat} : ∀ n,a + n ≤ xs.length → (∀ k,a ≤ k → k < a + n → cls xs k ≤ 4) →
  (rr a).st.length ≤ (rr (a + n)).st.length ∧ (∀ q,SameRow q (rr a).st (rr (a + n)).st) ∧ ∀ q,q ≤ (rr a).st.length → SameRow q (rr (a + n)).st (rr a).st
 | 0,_,_ => ⟨yo _,fun q => ⟨fun id b sz o _ c d => ⟨o,c,d⟩⟩,fun q _ => ⟨fun id b sz o _ c d => ⟨o,c,d⟩⟩⟩
 | n + 1,hn,h => by
   obtain ⟨z,p,m⟩:=znl j n (by omega) fun k A B => h k A (by omega);have t : xs[a + n]? = some (xs[a + n]'(by omega)):=ya (by omega);have v:=h (a + n) (by omega) (by omega);rw [zic t] at v;rw [← ym]
   have key : (rr (a + n)).st.length ≤ (rr (a + n + 1)).st.length ∧ (∀ q,SameRow q (rr (a + n)).st (rr (a + n + 1)).st) ∧ ∀ q,q ≤ (rr (a + n)).st.length → SameRow q (rr (a + n + 1)).st (rr (a + n)).st:=by
    have same : (rr (a + n + 1)).st = (rr (a + n)).st → (rr (a + n)).st.length ≤ (rr (a + n + 1)).st.length ∧ (∀ q,SameRow q (rr (a + n)).st (rr (a + n + 1)).st) ∧ ∀ q,q ≤ (rr (a + n)).st.length → SameRow q (rr (a + n + 1)).st (rr (a + n)).st:=fun e => by
     rw [e];exact ⟨yo _,fun q => ⟨fun id b sz o _ c d => ⟨o,c,d⟩⟩,fun q _ => ⟨fun id b sz o _ c d => ⟨o,c,d⟩⟩⟩
    rcases zBv j t with e | e
    ·exact same e
    ·rcases yi (zbc (xs[a + n]'(by omega)).op) 3 with u | u
     ·exact same (e.1 (by omega))
     ·rcases yi (zbc (xs[a + n]'(by omega)).op) 4 with y | y
      ·obtain ⟨l,g⟩:=e.2.1 (by omega)
       exact ⟨by omega,fun q => (g q).1,fun q _ => (g q).2⟩
      ·obtain ⟨os,w⟩:=e.2.2 (by omega)
       rw [w];refine ⟨by simp,fun q => ⟨fun id b sz o _ c d => ⟨o,by rw [yd (zb c)]; exact c,d⟩⟩,fun q s => ⟨fun id b sz o f c d => ⟨o,?_,d⟩⟩⟩;rw [yd (by omega)] at c;exact c
   refine ⟨by omega,fun q => ⟨fun id b sz o f c d => ?_⟩,fun q s => ⟨fun id b sz o f c d => ?_⟩⟩
   ·obtain ⟨r,l,g⟩:=(p q).row id b sz o f c d
    exact (key.2.1 q).row id b sz r f l g
   ·obtain ⟨r,l,g⟩:=(key.2.2 q (by omega)).row id b sz o f c d
    exact (m q s).row id b sz r f l g
theorem zp4 {D : Nat → Bool} {j : Nat} (a : ¬ 3 ≤ cls xs j) : ∀ n,ze8 xs (zby D j) n = ze8 xs D n
 | 0 => rfl
 | n + 1 => by
   simp only [ze8,zp4 a n]
   by_cases h : n = j
   ·subst h
    simp [a]
   ·simp [zby,h]
theorem zvv {D : Nat → Bool} {j : Nat} (c : 3 ≤ cls xs j) : ∀ n,j < n → (∀ k,j < k → k < n → ¬ (D k = true ∧ 3 ≤ cls xs k)) → ze8 xs (zby D j) n = j + 1
 | 0,h,_ => by omega
 | n + 1,h,hno => by
   simp only [ze8]
   by_cases e : n = j
   ·subst e
    simp [zby,c]
   ·have b:=hno n (by omega) (by omega)
    have hu : zby D j n = D n:=(by simp [zby,e]);rw [hu,if_neg (by simpa using fun a => by simpa [a] using b)];exact zvv c n (by omega) fun k d f => hno k d (by omega)
theorem zpT (C : ChkW xs p) (h : ∀ i x,xs[i]? = some x → step Cf (rr i) x = some (rr (i + 1))) {D : Nat → Bool} {j : Nat} {x : Oper} (r : j < p) (m : xs[j]? = some x) {v : V} {σ1 : zd} (o : rr (j + 1) = ((rr j).at σ1).put x.dst v) :
  zem rr xs p (zby D j) = match x.dst with
   | .slot t => (zem rr xs p D).set t v
   | _ => zem rr xs p D:=by
 have a : ∀ q,writes x ≠ some q → zh1 rr xs p (zby D j) q = zh1 rr xs p D q:=fun q b => by
  unfold zh1;split
  ·rename_i k s
   obtain ⟨_,y,c,n⟩:=zg8 s
   have g : k ≠ j:=fun e => by subst e; rw [m] at c; injection c with c; subst c; exact b n
   have : zby D j k = D k:=(by simp [zby,g]);rw [this]
  ·rfl
 obtain ⟨d,op,w⟩:=x
 cases d with
 | slot t =>
   have hw : writes ⟨.slot t,op,w⟩ = some t:=rfl;have f:=zDP C r m hw;refine yt fun q => ?_;rw [List.getElem?_set]
   by_cases b : q < (rr 0).env.length
   ·by_cases e : t = q
    ·subst e
     rw [if_pos rfl,if_pos (by simpa [zem] using b)];unfold zem;rw [yn,yq b];simp only [yu];unfold zh1;rw [f];have l : zby D j j = true:=(by simp [zby]);simp only [l,if_true];rw [o];have u:=(zhd C h j (by omega)).1;simp [R.put,R.at,yb,u,b]
    ·rw [if_neg e]
     unfold zem;rw [yn,yn,yq b];simp only [yu];rw [a q (by rw [hw]; simpa using e)]
   ·have l : (zem rr xs p (zby D j))[q]? = none:=ye (by simp [zem]; omega)
    have c : (zem rr xs p D)[q]? = none:=ye (by simp [zem]; omega);rw [l];split
    ·rw [if_neg (by simp [zem]; omega)]
    ·exact c.symm
 | no => exact yr fun q _ => a q (by simp [writes])
 | loc => exact yr fun q _ => a q (by simp [writes])
theorem zDl (S : zg3 P Cf) (C : Chk P κ nt gops xs ms p) (m : ∀ i x,xs[i]? = some x → step Cf (rr i) x = some (rr (i + 1))) (h0 : (rr 0).rs = []) : Local P κ nt gops xs (zbq rr) (zem rr xs p) (zrh rr xs p) p b l:=by
 intro j o x D g w a next Q X ho E aD hE M aR R0 F k
 have aS : p ≤ xs.length:=by rw [C.len]; exact C.p_le
 obtain ⟨c1,c2,c3,c4,_⟩:=zmn (C.pre j X) ho E;have hA : ∀ i,Reach gops j i → D i = true:=fun i h => zbg M h hE
 have hB : ∀ i,Reach gops i j → D i = false:=fun i h => by
  cases hi : D i with
  | false => rfl
  | true =>
    have:=zbg M h (M i hi);rw [aD] at this;cases this
 let r' : R:=⟨(yg j).reverse.map (zbq rr),zem rr xs p D,zrh rr xs p D,b,l⟩
 have aN:=zpe m h0 j (by omega);obtain ⟨_,aK⟩:=zhd C.w m j (Nat.le_of_lt X)
 have N : ∀ y ∈ zfa x,r'.get y = (rr j).get y:=fun y hy => by
  cases y with
  | l d => show ((yg j).reverse.map (zbq rr)).getD d vun = (rr j).rs.getD d vun; rw [aN]
  | c v => rfl
  | s q =>
    show (zem rr xs p D).getD q vun = (rr j).env.getD q vun
    rw [zhx C.w m,aK];unfold zh1;split
    ·rename_i i hi
     obtain ⟨aO,x',aL,hw⟩:=zg8 hi
     have J : zf2 q x = true:=by
      unfold zf2;rw [List.any_eq_true];exact ⟨_,hy,by simp⟩
     have : D i = decide (i < j):=by
      rcases yl i j with G | rfl | G
      ·rcases (C.pair G X aL E).1 with h | h
       ·exfalso
        have:=h.2;unfold zhc at this;rw [hw] at this;simp [J] at this
       ·rw [hA i h]; simp [G]
      ·rw [aD]; simp
      ·rcases (C.pair G aO E aL).1 with h | h
       ·exfalso
        have:=h.2;unfold zhc at this;rw [hw] at this;simp [J] at this
       ·rw [hB i h]; simp; omega
     simp only [this]
    ·rfl
 have G : ∀ y ∈ zfa x,((rr j).get y).lt (zrh rr xs p D).length = true:=fun y hy => by
  rw [← N y hy];have hu:=c4 y hy
  cases y with
  | l d =>
    simp only [zzI] at hu;split at hu
    ·rename_i t ht
     exact zp6 _ _ (F.lc d t ht hu)
    ·cases hu
  | s q =>
    by_cases hq : q < κ.length
    ·exact zp6 _ _ (F.env q _ (ya hq))
    ·have hl:=F.len
     have : r'.get (.s q) = vun:=by
      show (zem rr xs p D).getD q vun = vun
      rw [yb,ye (by simp only at hl; omega)];rfl
     rw [this];rfl
  | c v => exact V.lt_mono (Nat.zero_le _) v hu
 have finish : ∀ {v : V} {σ1 : zd},rr (j + 1) = ((rr j).at σ1).put x.dst v → zrh rr xs p (zby D j) = σ1 → (r'.at σ1).put x.dst v = ⟨zbq rr j :: (yg j).reverse.map (zbq rr),zem rr xs p (zby D j),zrh rr xs p (zby D j),b,l⟩:=fun {v σ1} z B => by
  have he:=zpT C.w m (D:=D) X E z;have K : zbq rr j = (((rr j).at σ1).put x.dst v).rs.headD vun:=by unfold zbq; rw [z]
  rw [he,B,K];cases x.dst <;> rfl
 by_cases hc : zbc x.op ≤ 2
 ·
  have U : (zbc x.op = 1 → SameRow (zrh rr xs p D).length (rr j).st r'.st) ∧ (zbc x.op = 2 → Same (zrh rr xs p D).length (rr j).st r'.st):=by
   show (zbc x.op = 1 → SameRow (zrh rr xs p D).length (rr j).st (zrh rr xs p D)) ∧ (zbc x.op = 2 → Same (zrh rr xs p D).length (rr j).st (zrh rr xs p D))
   unfold zrh;have aM:=zpH (xs:=xs) D p;rcases yi j (ze8 xs D p) with hm | hm
   ·
    rcases zpD (xs:=xs) D p with h | ⟨e,he,I,aF⟩
    ·omega
    ·have f : ∀ i,j ≤ i → i < ze8 xs D p → cls xs i ≤ 2 ∨ (free (zbc x.op) (cls xs i) = true):=fun i z B => by
      rcases yi (cls xs i) 3 with h | h
      ·exact .inl (by omega)
      ·have aU : j ≠ i:=fun e' => by subst e'; rw [zic E] at h; omega
       have A : xs[i]? = some (xs[i]'(by omega)):=ya (by omega)
       have aQ : D i = true:=by
        rcases yi i e with aH | aH
        ·have L : xs[e]? = some (xs[e]'(by omega)):=ya (by omega)
         rcases (C.pair aH (by omega) A L).1 with W | O
         ·have:=ztc W.1
          rw [zic A] at h;rw [zic L] at aF;omega
         ·exact zbg M O (M e I)
        ·have : i = e:=by omega
         rw [this]; exact I
       rcases (C.pair (by omega : j < i) (by omega) E A).1 with W | O
       ·exact .inr (by rw [zic A]; exact W.1)
       ·have:=hB i O
        rw [aQ] at this;cases this
     obtain ⟨n,hn⟩ : ∃ n,ze8 xs D p = j + n:=⟨ze8 xs D p - j,by omega⟩;rw [hn];refine ⟨fun aE => (znl m n (by omega) fun i z B => ?_).2.1 _,fun aC => ?_⟩
     ·rcases f i z (by omega) with h | h
      ·omega
      ·exact zyc (.inl (by rw [← aE]; exact h))
     ·obtain ⟨os,Z⟩:=znx m (a:=j) n (by omega) fun i z B => by
       rcases f i z (by omega) with h | h
       ·exact .inl h
       ·exact zxj (.inl (by rw [← aC]; exact h))
      rw [Z];exact ⟨fun id o _ ho => by rw [yd (zb ho)]; exact ho⟩
   ·
    have f : ∀ i,ze8 xs D p ≤ i → i < j → cls xs i ≤ 2 ∨ free (cls xs i) (zbc x.op) = true:=fun i z B => by
     rcases yi (cls xs i) 3 with h | h
     ·exact .inl (by omega)
     ·have A : xs[i]? = some (xs[i]'(by omega)):=ya (by omega)
      have Y:=zhI (xs:=xs) D p i z (by omega);rcases (C.pair B X A E).1 with W | O
      ·exact .inr (by rw [zic A]; exact W.1)
      ·exact absurd ⟨hA i O,h⟩ Y
    obtain ⟨n,hn⟩ : ∃ n,j = ze8 xs D p + n:=⟨j - ze8 xs D p,by omega⟩;have e1 : (rr j).st = (rr (ze8 xs D p + n)).st:=(by rw [← hn]);rw [e1];refine ⟨fun aE => (znl m n (by omega) fun i z B => ?_).2.2 _ (yo _),fun aC => ?_⟩
    ·rcases f i z (by omega) with h | h
     ·omega
     ·exact zyc (.inr (by rw [← aE]; exact h))
    ·obtain ⟨os,Z⟩:=znx m (a:=ze8 xs D p) n (by omega) fun i z B => by
      rcases f i z (by omega) with h | h
      ·exact .inl h
      ·exact zxj (.inr (by rw [← aC]; exact h))
     rw [Z];exact ⟨fun id o aP ho => by rw [yd aP] at ho; exact ho⟩
  obtain ⟨v,z,B⟩:=zgA (r':=r') hc N G U.1 U.2 (m j x E);have hq : ¬ 3 ≤ cls xs j:=by rw [zic E]; omega
  have aB : zrh rr xs p (zby D j) = zrh rr xs p D:=by unfold zrh; rw [zp4 hq]
  have aJ : r'.put x.dst v = ⟨zbq rr j :: (yg j).reverse.map (zbq rr),zem rr xs p (zby D j),zrh rr xs p (zby D j),b,l⟩:=by
   have he:=zpT C.w m (D:=D) (σ1:=(rr j).st) X E (by rw [z]; rfl);have K : zbq rr j = ((rr j).put x.dst v).rs.headD vun:=(by unfold zbq; rw [z]);rw [he,aB,K];cases x.dst <;> rfl
  rw [aJ] at B;exact zdX (r:=r') S R0 F c1 c2 c3 B (fun g' w' u H R1 _ F1 => k g' w' u H R1 F1) (fun _ h => h)
 ·
  have aG : 3 ≤ cls xs j:=by rw [zic E]; omega
  have aM:=zpH (xs:=xs) D p
  have aT : ze8 xs D p ≤ j:=by
   rcases zpD (xs:=xs) D p with h | ⟨e,he,I,aF⟩
   ·omega
   ·rcases yl e j with h | h | h
    ·omega
    ·rw [h,aD] at I; cases I
    ·have L : xs[e]? = some (xs[e]'(by omega)):=ya (by omega)
     rcases (C.pair h (by omega) E L).1 with W | O
     ·have:=ztc W.1
      rw [zic L] at aF;omega
     ·have:=hB e O
      rw [I] at this;cases this
  have Y : ∀ i,ze8 xs D p ≤ i → i < j → ¬ 3 ≤ cls xs i:=fun i z B h => by
   have A : xs[i]? = some (xs[i]'(by omega)):=ya (by omega);have hn:=zhI (xs:=xs) D p i z (by omega);rcases (C.pair B X A E).1 with W | O
   ·have:=ztc W.1
    rw [zic A] at h;omega
   ·exact hn ⟨hA i O,h⟩
  have U : r'.st = (rr j).st:=by
   show (rr (ze8 xs D p)).st = (rr j).st
   obtain ⟨n,hn⟩ : ∃ n,j = ze8 xs D p + n:=⟨j - ze8 xs D p,by omega⟩;have:=zpy m (a:=ze8 xs D p) n (by omega) fun i z B => Y i z (by omega);rw [← hn] at this;exact this.symm
  obtain ⟨v,σ1,z,B,_⟩:=ztD (r':=r') N U (m j x E)
  have aA : ze8 xs (zby D j) p = j + 1:=zvv aG p X fun i h3 h4 h5 => by
   have:=zhI (xs:=xs) D p i (by omega) h4;exact this h5
  have aI : zrh rr xs p (zby D j) = σ1:=by
   unfold zrh;rw [aA,z,zfw];rfl
  rw [finish z aI] at B;exact zdX (r:=r') S R0 F c1 c2 c3 B (fun g' w' u H R1 _ F1 => k g' w' u H R1 F1) (fun _ h => h)
theorem zFB (hm : P.follows .mixedOrders = true) (Cf : zaq) (S : zg3 P Cf) (κ : List Tmp) (nt id : Nat) (gops : Array Go.Oper) (xs : List Oper) (y : ztG P κ nt gops xs = true) (r r1 : R) (E : r.rs = []) (m : steps Cf xs r = some r1) : zCV P κ nt id gops r r1:=by
 intro g w a Q R0 F x;obtain ⟨ms,p,C⟩:=zHb y;obtain ⟨rr,A,U,d⟩:=zm8 xs r r1 m;have K : (rr 0).rs = []:=by rw [A]; exact E
 have B : p ≤ xs.length:=by rw [C.len]; exact C.p_le
 refine wp_region_any hm ?_;obtain ⟨I,M⟩:=drawn R0 1
 have c : ∀ i,Dof (yj gops.size false) i = false:=fun i => by
  unfold Dof;rw [Array.getD_eq_getD_getElem?,Array.getElem?_replicate];split <;> rfl
 have f : zrh rr xs p (Dof (yj gops.size false)) = r.st:=by
  unfold zrh;rcases zpD (xs:=xs) (Dof (yj gops.size false)) p with h | ⟨e,_,h,_⟩
  ·rw [h,A]
  ·rw [c] at h; cases h
 have s : ∀ q,(zem rr xs p (Dof (yj gops.size false))).getD q vun = r.env.getD q vun:=fun q => by
  rw [zhx C.w d];unfold zh1;split <;> simp [c,A]
 have o : ∀ g' w' z loc,Ext g w r.st g' w' (rr gops.size).st → Rel g' w' (rr gops.size).st → Fr κ loc nt g' w' (rr gops.size) z → Q .normal z w':=fun g' w' z loc H L G => by
  rw [← C.len,U] at H L G;exact x g' w' z loc H L G
 refine zwp (b:=0) (l:=0) (v:=zbq rr) (envD:=zem rr xs p) (σD:=zrh rr xs p) (g0:=g) (w0:=w) (σ0:=r.st) (rr:=rr) S C.plan (zDl S C d K) d (zpe d K p B) (fun D => by simp [zem,A,F.len]) F.nd F.bd (fun D u => ⟨?_,?_⟩) o gops.size (yj gops.size false) g (w.drewN 1) a (by simp) (fun i _ => c i) (fun j J => by rw [c] at J; cases J) ?_ ⟨?_,?_,F.size,F.df,fun i t O => ?_,fun i t _ u => by rw [c] at u; cases u⟩
 ·
  unfold zrh;have N:=zpH (xs:=xs) D p;obtain ⟨n,V⟩ : ∃ n,p = ze8 xs D p + n:=⟨p - ze8 xs D p,by omega⟩;have:=zpy d (a:=ze8 xs D p) n (by omega) fun i W h2 h => zhI (xs:=xs) D p i W (by omega) ⟨by rw [u]; simp; omega,h⟩;rw [← V] at this;exact this.symm
 ·
  obtain ⟨q1,X⟩:=zhd C.w d p (yo _);refine yt fun q => ?_
  by_cases hq : q < (rr 0).env.length
  ·have e1:=zhx (D:=D) (q:=q) C.w d
   have e2:=X q
   have e3 : zh1 rr xs p D q = zh1 rr xs p (fun k => decide (k < p)) q:=by
    congr 1
    funext k
    exact u k
   rw [e3,← e2] at e1;rw [yb,yb] at e1;have Y : q < (zem rr xs p D).length:=(by simpa [zem] using hq);have Z : q < (rr p).env.length:=(by omega);rw [ya Y,ya Z] at e1 ⊢;simpa using e1
  ·rw [ye (by simp [zem]; omega),ye (by omega)]
 ·
  unfold left;exact Nat.le_trans (List.length_filter_le _ _) (by simp)
 ·rw [f]; exact I
 ·rw [f]; exact M
 ·rw [f,s]
  exact I.zh _ _ (F.env i t O)
end
end Go.A

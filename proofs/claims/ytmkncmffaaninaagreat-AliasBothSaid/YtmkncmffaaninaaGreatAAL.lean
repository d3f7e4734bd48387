/- A part of the proof of AliasBoth. Conditions: none. -/
import Derived.Test.YtmkncmffaaninaaGreatAAK
set_option linter.all false
open List renaming getD_eq_getElem?_getD → ya,getElem?_append_left → yd,mem_of_getElem? → ye,range → yf,all_eq_true → yg,getElem?_eq_getElem → yi,replicate → yl
open Bool renaming and_eq_true → yb,not_eq_true' → yk,or_eq_true → yn
open Array renaming getElem?_eq_some_iff → yc,getElem?_eq_getElem → yh
open Nat renaming lt_of_lt_of_le → yj,le_refl → ym,le_of_lt → yo
namespace Go.A
def zut : Oper → Bool
 | ⟨.loc,.al _ [],none⟩ => true
 | ⟨.slot _,.al _ [],none⟩ => true
 | ⟨.loc,.mks _ none _,none⟩ => true
 | _ => false
def eff (xs : List Oper) (i : Nat) : Bool:=decide (3 ≤ cls xs i)
def zCq (ms : List Nat) (xs : List Oper) (p j K : Nat) : Bool:=!(decide (K < p) && bit ms j K) && (yf K).all fun e => !(eff xs e && bit ms e j)
def harmless (xs : List Oper) (p c j K : Nat) : Bool:=(yf p).all fun i => !(eff xs i) || !(decide (min j K ≤ i) && decide (i < max j K)) || cls xs i == 4 || (c == 1 && decide (cls xs i ≤ 4))
def zuG : D → Bool
 | .loc => true
 | _ => false
def zDJ : Op → Bool
 | .call _ _ _ => false
 | _ => true
def zsb (ms : List Nat) (xs : List Oper) (ps : List (Nat × Nat)) (p j : Nat) (x : Oper) : Bool :=
 zar x.op == 0 || decide (3 ≤ zar x.op) || (yf (p + 1)).all fun K => !(K == p || eff xs K) || !(zCq ms xs p j K) || harmless xs p (zar x.op) j K || (ps.contains (j,K) && zuG x.dst && zDJ x.op)
def zru (xs : List Oper) (gops : Array Go.Oper) (j i : Nat) (y : Oper) : Bool:=(zae gops j).contains i || (match (xs[i]?).bind writes with
 | some q => zdq q y
 | none => false)
def zp6 (ms : List Nat) (gops : Array Go.Oper) (xs : List Oper) (i j : Nat) : Bool:=match xs[i]?,xs[j]? with
 | some x,some y => (zei x y || bit ms j i) && (match writes x,writes y with
   | some q,some q' => q != q'
   | _,_ => true) && (!(eff xs i && eff xs j) || zut y || bit ms j i) && (!(zut x && zru xs gops j i y) || (yf i).all fun e => !(eff xs e) || bit ms j e)
 | _,_ => false
def ztb (P : Program) (κ : List Tmp) (nt : Nat) (gops : Array Go.Oper) (ps : List (Nat × Nat)) (xs : List Oper) (ms : List Nat) (p j : Nat) : Bool:=match gops[j]?,xs[j]? with
 | some o,some x => okD κ nt o.dst x.dst && zdS κ (zdi gops xs j) gops o.guard x.guard && zkj P κ (zdi gops xs j) o x.dst x.op && (zcP x).all (zvf (zdi gops xs j)) && (yf j).all (fun i => zp6 ms gops xs i j) && zsb ms xs ps p j x
 | _,_ => false
def zlZ (P : Program) : List Tmp → Nat → Array Go.Oper → List (Nat × Nat) → List Oper → Bool:=fun κ nt gops ps xs =>
 let ms:=zkm gops.toList []
 let p:=zlS ms gops.size
 zgE gops ms && xs.length == gops.size && decide (p ≤ gops.size) && zg7 (zBA gops xs p) && (yf p).all (ztb P κ nt gops ps xs ms p) && (yf gops.size).all fun j => decide (j < p) || zgH P κ nt gops xs ms j
structure Chk2 (P : Program) (κ : List Tmp) (nt : Nat) (gops : Array Go.Oper) (ps : List (Nat × Nat)) (xs : List Oper) (ms : List Nat) (p : Nat) : Prop where
 masks : zgE gops ms = true
 len : xs.length = gops.size
 p_le : p ≤ gops.size
 dup : zg7 (zBA gops xs p) = true
 pre : ∀ j,j < p → ztb P κ nt gops ps xs ms p j = true
 tail : ∀ j,p ≤ j → j < gops.size → zgH P κ nt gops xs ms j = true
section
variable {P : Program} {κ : List Tmp} {nt : Nat} {gops : Array Go.Oper} {ps : List (Nat × Nat)} {xs : List Oper} {ms : List Nat} {p b l : Nat} {Cf : zL} {rr : Nat → R}
theorem zA7 (h : zlZ P κ nt gops ps xs = true) : ∃ ms p,Chk2 P κ nt gops ps xs ms p:=by
 unfold zlZ at h;simp only [yb,beq_iff_eq,decide_eq_true_eq] at h;obtain ⟨⟨⟨⟨⟨g,c⟩,f⟩,e⟩,d⟩,i⟩:=h;refine ⟨_,_,g,c,f,e,fun j b => yg.1 d j (by simpa using b),fun j b a => ?_⟩;have:=yg.1 i j (by simpa using a);simp only [yn,decide_eq_true_eq] at this;rcases this with h | h
 ·omega
 ·exact h
theorem Chk2.pre_some (C : Chk2 P κ nt gops ps xs ms p) {j : Nat} (f : j < p) {o : Go.Oper} {x : Oper} (k : gops[j]? = some o) (e : xs[j]? = some x) :
  okD κ nt o.dst x.dst = true ∧ zdS κ (zdi gops xs j) gops o.guard x.guard = true ∧ zkj P κ (zdi gops xs j) o x.dst x.op = true ∧ (∀ y ∈ zcP x,zvf (zdi gops xs j) y = true) ∧ (∀ i,i < j → zp6 ms gops xs i j = true) ∧ zsb ms xs ps p j x = true:=by
 have h:=C.pre j f;unfold ztb at h;rw [k,e] at h;simp only [yb] at h;obtain ⟨⟨⟨⟨⟨m,a⟩,l⟩,g⟩,n⟩,d⟩:=h;exact ⟨m,a,l,fun y c => yg.1 g y c,fun i b => yg.1 n i (by simpa using b),d⟩
theorem Chk2.plan (C : Chk2 P κ nt gops ps xs ms p) : Plan P κ nt gops xs p where
 len:=C.len
 p_le:=C.p_le
 back:=fun j o a i c => by
  have b : j < gops.size:=(yc.1 a).1;exact (zit C.masks b).2 i (by unfold zae; rw [a]; exact c)
 pre:=fun j o x b a f => (C.pre_some b a f).1
 apart:=fun i j t c b g e => zis C.dup List.nodup_range i (by simpa using c) j (by simpa using b) t g e
 tail:=fun j o x b a f => by
  have d : j < gops.size:=(yc.1 a).1;have h:=C.tail j b d;unfold zgH at h;rw [a,f] at h;simp only [yb] at h;obtain ⟨⟨⟨g,e⟩,l⟩,k⟩:=h;exact ⟨g,e,l,fun i c => zcU C.masks j d (yg.1 k i (by simpa using c))⟩
theorem Chk2.pair (C : Chk2 P κ nt gops ps xs ms p) {i j : Nat} (d : i < j) (o : j < p) {x y : Oper} (r : xs[i]? = some x) (n : xs[j]? = some y) :
  (zei x y = true ∨ Reach gops j i) ∧ (∀ q,writes x = some q → writes y ≠ some q) ∧ (eff xs i = true → eff xs j = true → zut y = true ∨ Reach gops j i) ∧
  (zut x = true → zru xs gops j i y = true → ∀ e,e < i → eff xs e = true → Reach gops j e):=by
 have a : j < gops.size:=yj o C.p_le;have h:=(C.pre_some o (yh a) n).2.2.2.2.1 i d;unfold zp6 at h;rw [r,n] at h;simp only [yb,yn] at h;obtain ⟨⟨⟨s,m⟩,b⟩,c⟩:=h;refine ⟨s.imp id fun h => zcU C.masks j a h,fun q t f => ?_,fun l g => ?_,fun u hu e he k => ?_⟩
 ·rw [t,f] at m
  simp at m
 ·rcases b with (b | b) | b
  ·simp [l,g] at b
  ·exact .inl b
  ·exact .inr (zcU C.masks j a b)
 ·rcases c with c | c
  ·simp [u,hu] at c
  ·have:=yg.1 c e (by simpa using he)
   simp only [yn,yk] at this;rcases this with h | h
   ·rw [k] at h; cases h
   ·exact zcU C.masks j a h
theorem Chk2.w (C : Chk2 P κ nt gops ps xs ms p) : ChkW xs p:=⟨by rw [C.len]; exact C.p_le,fun a d _ _ c b => (C.pair a d c b).2.1⟩
def vis (xs : List Oper) (D : Nat → Bool) (K k : Nat) : Bool:=D k && (!(eff xs k) || decide (k < K))
def zcr (rr : Nat → R) (xs : List Oper) (p : Nat) (D : Nat → Bool) (K q : Nat) : V:=match wr xs p q with
 | some k => if vis xs D K k then (rr (k + 1)).env.getD q vun else if D k then vun else (rr 0).env.getD q vun
 | none => (rr 0).env.getD q vun
def zl4 (rr : Nat → R) (xs : List Oper) (p : Nat) (D : Nat → Bool) (K : Nat) : List V:=(yf (rr 0).env.length).map (zcr rr xs p D K)
theorem zkf {D : Nat → Bool} {K q : Nat} (C : ChkW xs p) (b : ∀ i x,xs[i]? = some x → step Cf (rr i) x = some (rr (i + 1))) : (zl4 rr xs p D K).getD q vun = zcr rr xs p D K q:=by
 unfold zl4
 by_cases a : q < (rr 0).env.length
 ·simp [ya,a]
 ·have c : (rr 0).env.getD q vun = vun:=by simp [ya,a]
  have f : ((yf (rr 0).env.length).map (zcr rr xs p D K)).getD q vun = vun:=by simp [ya,a]
  rw [f];unfold zcr;split
  ·rename_i k e
   obtain ⟨g,_⟩:=zek e;have d:=(zej C b (k + 1) (by omega)).1;split
   ·simp [ya,d,a]
   ·split
    ·rfl
    ·exact c.symm
  ·exact c.symm
inductive Mk where
 | ptr
 | own (n : Nat)
def Mk.v (id : Nat) : Mk → V
 | .ptr => .one (.ptr (id + 0) 0 0 0)
 | .own n => .one (.own id 0 0 n)
def Mk.u (b : Nat) : Mk → Value
 | .ptr => .pointer (some ⟨b,0,none⟩)
 | .own n => .slice (some ⟨b,0,none⟩) n n
def Mk.ok (sz : Nat) (es : List (List C)) : Mk → Prop
 | .ptr => es.length = 1
 | .own n => es.length = n
structure Raw (P : Program) (gops : Array Go.Oper) (xs : List Oper) (rr : Nat → R) (w0 : World) (g : G) (w : World) (a : Act) (i b : Nat) : Prop where
 it : ∃ (o : Go.Oper) (x : Oper) (sz : Nat) (es : List (List C)) (arr : Array Value) (ty : TypeId) (t : Tmp) (kd : Mk),gops[i]? = some o ∧ xs[i]? = some x ∧ zut x = true ∧ o.dst = some t ∧ w.heap[b]? = some (.cells arr ty) ∧ a.tmps.getD t undef = kd.u b ∧
  arr.size = es.length * sz ∧ (∀ g w σ,zb9 g w σ arr sz es) ∧ kd.ok sz es ∧ rr (i + 1) = ((rr i).at ((rr i).st ++ [.cells 0 sz es])).put x.dst (kd.v (rr i).st.length)
 ow : g.ow b = .no
 no : ∀ o,¬ g.N b o
 new : w0.heap.size ≤ b
structure Mid2 (P : Program) (gops : Array Go.Oper) (xs : List Oper) (κ : List Tmp) (nt p : Nat) (rr : Nat → R) (g0 : G) (w0 : World) (σ0 : zb) (D : Nat → Bool) (K : Nat) (B : Nat → Nat) (g : G) (w : World) (a : Act) : Prop where
 ext : Ext g0 w0 σ0 g w (rr K).st
 rel : Rel g w (rr K).st
 size : a.tmps.size = nt
 df : a.defers = []
 slot : ∀ (i : Nat) (t : Tmp),κ[i]? = some t → ze g w (rr K).st (zcr rr xs p D K i) (a.tmps.getD t undef)
 done : ∀ i t,i < p → vis xs D K i = true → lo gops xs i = some t → ze g w (rr K).st (zaI rr i) (a.tmps.getD t undef)
 kp : K ≤ p
 before : ∀ i,i < K → eff xs i = true → D i = true
 raw : ∀ i,i < p → D i = true → vis xs D K i = false → Raw P gops xs rr w0 g w a i (B i)
 inj : ∀ i j,i < p → j < p → D i = true → vis xs D K i = false → D j = true → vis xs D K j = false → B i = B j → i = j
theorem ziq {D : Nat → Bool} {K i : Nat} (h : i ≠ K) : vis xs D (K + 1) i = vis xs D K i:=by
 unfold vis
 have : decide (i < K + 1) = decide (i < K):=by
  simp only [decide_eq_decide];omega
 rw [this]
theorem zcZ {D : Nat → Bool} {K i : Nat} (h : eff xs K = false) : vis xs D (K + 1) i = vis xs D K i:=by
 by_cases e : i = K
 ·subst e
  unfold vis;simp [h]
 ·exact ziq e
theorem zDB {g g0 : G} {w w0 : World} {σ σ0 : zb} (R : Rel g w σ) (s : Ext g0 w0 σ0 g w σ) {b : Nat} {ty : TypeId} {arr : Array Value} {sz : Nat} {es : List (List C)} {kd : Mk} (z : arr.size = es.length * sz) (d : ∀ g w σ,zb9 g w σ arr sz es) (f : kd.ok sz es) (j : w.heap[b]? = some (.cells arr ty))
  (r : g.ow b = .no) (y : ∀ o,¬ g.N b o) (E : w0.heap.size ≤ b) :
  Ext g0 w0 σ0 (g.own σ.length b) w (σ ++ [.cells 0 sz es]) ∧ Rel (g.own σ.length b) w (σ ++ [.cells 0 sz es]) ∧
  (∀ v u,ze g w σ v u → ze (g.own σ.length b) w (σ ++ [.cells 0 sz es]) v u) ∧
  ze (g.own σ.length b) w (σ ++ [.cells 0 sz es]) (kd.v σ.length) (kd.u b):=by
 let g1 : G:={ g with ow:=zr1 g.ow b (.ob σ.length) }
 have A : Rel g1 w σ:=zqI R rfl rfl rfl (fun c id _ h => by
  by_cases e : c = b
  ·subst e; rw [r] at h; cases h
  ·exact (zP g.ow _ e).trans h) (fun c t k _ h => by
  by_cases e : c = b
  ·subst e; rw [r] at h; cases h
  ·exact (zP g.ow _ e).trans h)
 have H1 : Ext g0 w0 σ0 g1 w σ:={ s with ow:=fun c l => (zP g.ow _ (by omega)).trans (s.ow c l) };have x : b < w.heap.size:=(yc.1 j).1
 have p : Ext g1 w σ (g.own σ.length b) w (σ ++ [.cells 0 sz es]):={
  os:=rfl
  tape:=rfl
  output:=rfl
  size:=ym _
  keeps:=fun _ _ h => ⟨h,rfl⟩
  len:=by simp
  shape:=fun id D sz len h => by
   obtain ⟨es,a,q⟩:=zao h;have m:=za a;exact .inl ⟨by unfold shapeOf; rw [yd m]; exact h,zP g.ρ _ (by omega),fun _ arr t B => ⟨arr,B,rfl⟩⟩
  map:=fun id es h => ⟨zP g.ρ _ (by have:=za h; omega),es,by rw [yd (za h)]; exact h⟩
  tok:=fun t k n h => by
   obtain ⟨sz,fr,a,q⟩:=zb7 h;exact ⟨n,zct (by rw [yd (za a)]; exact a) q,ym _,fun _ => rfl⟩
  tsz:=fun t sz h => by
   obtain ⟨fr,a⟩:=zdh h;exact zbC (fr:=fr) (by rw [yd (za a)]; exact a)
  ow:=fun _ _ => rfl
  new:=fun _ _ h _ _ => h
  frame:=fun _ _ _ => rfl }
 refine ⟨H1.trans p,⟨R.nb,fun id ob h => ?_⟩,fun v u h => p.ze _ _ (zdA (g:=g) (g':=g1) rfl rfl rfl v u h),?_⟩
 ·by_cases m : id < σ.length
  ·rw [yd m] at h
   exact zbi p (zP g.ρ _ (by omega)) (fun _ => rfl) (fun c _ _ => ⟨rfl,rfl,fun _ h => h⟩) (A.ob id ob h)
  ·have i : id = σ.length:=by
    have:=za h;simp at this;omega
   subst i;simp at h;subst h;exact fun _ => ⟨by simp [G.own],fun o => by simp [G.own]; exact y o,arr,ty,by simpa [G.own] using j,by omega,d _ _ _⟩
 ·cases kd with
  | ptr =>
    simp only [Mk.v,Mk.u,ze,zq,Nat.add_zero];exact ⟨0,sz,es.length,zo (zie σ _),ym _,fun _ => by simp [G.own],_,rfl⟩
  | own n =>
    simp only [Mk.ok] at f;subst f;simp only [Mk.v,Mk.u,ze,zq];refine ⟨0,sz,es.length,zo (zie σ _),ym _,fun _ => ⟨_,_,rfl,ym _,fun h => h,fun _ => ⟨by omega,fun _ => by simp [G.own],arr,ty,?_,by rw [Nat.zero_add]; omega⟩⟩,_,_,rfl⟩;simpa [G.own] using j
end
section
variable {P : Program} {κ : List Tmp} {nt : Nat} {gops : Array Go.Oper} {ps : List (Nat × Nat)} {xs : List Oper} {ms : List Nat} {p b l : Nat} {Cf : zL} {rr : Nat → R} {g0 : G} {w0 : World} {σ0 : zb}
theorem zo4 {x : Oper} {q : Nat} (h : writes x = some q) : x.dst = .slot q:=by
 obtain ⟨d,op,a⟩:=x;cases d <;> simp [writes] at h;subst h;rfl
theorem zeO {x : Oper} {q : Nat} (h : x.dst = .slot q) : writes x = some q:=by
 obtain ⟨d,op,a⟩:=x;simp only at h;subst h;rfl
theorem zg9 {α : Type} {l : List α} (c : l.Nodup) {i j : Nat} {x : α} (a : l[i]? = some x) (b : l[j]? = some x) : i = j:=by
 induction l generalizing i j with
 | nil => simp at a
 | cons y l ih =>
   rw [List.nodup_cons] at c
   cases i with
   | zero =>
     cases j with
     | zero => rfl
     | succ j =>
       simp at a b;subst a;exact absurd (ye b) c.1
   | succ i =>
     cases j with
     | zero =>
       simp at a b;subst b;exact absurd (ye a) c.1
     | succ j =>
       simp at a b;rw [ih c.2 a b]
theorem zfZ {x : Oper} (h : zut x = true) : x.guard = none ∧ (x.dst = .loc ∨ ∃ q,x.dst = .slot q) ∧ ((∃ zero,x.op = .al zero []) ∨ ∃ zero n,x.op = .mks zero none n):=by
 unfold zut at h;split at h
 all_goals first | exact ⟨rfl,.inl rfl,.inl ⟨_,rfl⟩⟩ | exact ⟨rfl,.inr ⟨_,rfl⟩,.inl ⟨_,rfl⟩⟩ | exact ⟨rfl,.inl rfl,.inr ⟨_,_,rfl⟩⟩ | cases h
theorem zBu {r r1 : R} {x : Oper} {zero : List C} (h : zut x = true) (a : x.op = .al zero []) (b : step Cf r x = some r1) :
  r1 = (r.at (r.st ++ [.cells 0 zero.length [zero]])).put x.dst (.one (.ptr (r.st.length + 0) 0 0 0)):=by
 obtain ⟨c,_,_⟩:=zfZ h;obtain ⟨d,op,e⟩:=x;simp only at c a;subst c a;simp only [step,zaF,Option.some.injEq] at b;rw [← b];simp [aal,tokens,zee,R.allocs,R.at]
theorem zAY {r r1 : R} {x : Oper} {zero : List C} {n : X} (h : zut x = true) (b : x.op = .mks zero none n) (a : step Cf r x = some r1) :
  ∃ kk m,r.get n = .one (.f (.lit (.int kk m))) ∧ 0 ≤ m ∧ m ≤ LIM ∧ r1 = (r.at (r.st ++ [.cells 0 zero.length (yl m.toNat zero)])).put x.dst (.one (.own r.st.length 0 0 m.toNat)):=by
 obtain ⟨c,_,_⟩:=zfZ h;obtain ⟨d,op,g⟩:=x;simp only at c b;subst c b;simp only [step,zaF] at a;unfold zBC at a;split at a
 ·rename_i e
  split at a
  ·rename_i hm
   injection a with a;exact ⟨_,_,e,hm.1,hm.2,a.symm⟩
  ·cases a
 ·contradiction
 ·cases a
theorem zrb (b : ∀ i x,xs[i]? = some x → step Cf (rr i) x = some (rr (i + 1))) {K : Nat} (d : K < xs.length) (he : eff xs K = false) : (rr (K + 1)).st = (rr K).st :=
 zl6 b (a:=K) 1 (by omega) fun k e c h => by
  have : k = K:=by omega
  subst this;unfold eff at he;simp [h] at he
theorem zyt (C : Chk2 P κ nt gops ps xs ms p) (S : ∀ i x,xs[i]? = some x → step Cf (rr i) x = some (rr (i + 1))) (y : (rr 0).env.length = κ.length) {D : Nat → Bool} {K : Nat} {B : Nat → Nat} {g : G} {w : World} {a : Act}
  (M : Mid2 P gops xs κ nt p rr g0 w0 σ0 D K B g w a) (H : K < p) (h : eff xs K = false ∨ D K = true) : ∃ g',Mid2 P gops xs κ nt p rr g0 w0 σ0 D (K + 1) B g' w a:=by
 have Q : K < xs.length:=yj H C.w.le
 cases he : eff xs K with
 | false =>
   have s:=zrb S Q he
   have y : ∀ q,zcr rr xs p D (K + 1) q = zcr rr xs p D K q:=fun q => by
    unfold zcr;split
    ·rw [zcZ he]
    ·rfl
   refine ⟨g,⟨by rw [s]; exact M.ext,by rw [s]; exact M.rel,M.size,M.df,fun i t ht => by rw [s,y]; exact M.slot i t ht,fun i t m I ht => by rw [s]; exact M.done i t m (by rw [← zcZ he]; exact I) ht,H,fun i m u => ?_,
    fun i m L I => M.raw i m L (by rw [← zcZ he]; exact I),fun i j m hj n b J r => M.inj i j m hj n (by rw [← zcZ he]; exact b) J (by rw [← zcZ he]; exact r)⟩⟩
   by_cases e : i = K
   ·subst e; rw [he] at u; cases u
   ·exact M.before i (by omega) u
 | true =>
   have L : D K = true:=by
    rcases h with h | h
    ·rw [he] at h; cases h
    ·exact h
   have N : vis xs D K K = false:=(by simp [vis,he]);obtain ⟨⟨o,x,sz,es,arr,ty,t,kd,ho,X,Z,A,hb,E,hz,U,aD,f⟩,aC,aA,V⟩:=M.raw K H L N;obtain ⟨hg,hd,_⟩:=zfZ Z;obtain ⟨H1,R1,I,hp⟩:=zDB M.rel M.ext hz U aD hb aC aA V;have s : (rr (K + 1)).st = (rr K).st ++ [.cells 0 sz es]:=(by rw [f,zcX]; rfl);rw [← s] at H1 R1 I hp;have aE : K < gops.size:=(by rw [← C.len]; exact Q);have l:=(C.pre_some H ho X).1;rw [A] at l;have d : vis xs D (K + 1) K = true:=(by simp [vis,L]);refine ⟨_,⟨H1,R1,M.size,M.df,fun q t' c => ?_,fun i t' m b c => ?_,H,fun i m u => ?_,fun i m n b => ?_,fun i j m hj n b J r hB => ?_⟩⟩
   ·
    by_cases hw : wr xs p q = some K
    ·have W:=zek hw
     obtain ⟨_,x',z,aB⟩:=W;rw [X] at z;injection z with z;subst z;unfold zcr;rw [hw];simp only [d,if_true]
     have O : x.dst = .slot q:=by
      exact zo4 aB
     rw [O] at l;simp only [okD,beq_iff_eq] at l;rw [c] at l;injection l with l;subst l;rw [E]
     have hlen : q < (rr K).env.length:=by
      rw [(zej C.w S K (yo H)).1,y];exact za c
     have : (rr (K + 1)).env.getD q vun = kd.v (rr K).st.length:=by
      rw [f,O];simp [R.put,R.at,ya,hlen]
     rw [this];exact hp
    ·have : zcr rr xs p D (K + 1) q = zcr rr xs p D K q:=by
      unfold zcr;split
      ·rename_i k hk
       rw [ziq (fun e => by subst e; exact hw hk)]
      ·rfl
     rw [this];exact I _ _ (M.slot q t' c)
   ·by_cases e : i = K
    ·subst e
     have hl : lo gops xs i = zaH o.dst x.dst:=(by unfold lo; rw [ho,X]);rw [hl,A] at c;rcases hd with hd | ⟨q,hd⟩
     ·rw [hd] at c
      simp only [zaH,Option.some.injEq] at c;subst c;rw [E]
      have : zaI rr i = kd.v (rr i).st.length:=by
       unfold zaI;rw [f,hd];rfl
      rw [this];exact hp
     ·rw [hd] at c
      simp [zaH] at c
    ·rw [ziq e] at b
     exact I _ _ (M.done i t' m b c)
   ·by_cases e : i = K
    ·subst e; exact L
    ·exact M.before i (by omega) u
   ·have e : i ≠ K:=fun e => by subst e; rw [d] at b; cases b
    rw [ziq e] at b;have Y : B i ≠ B K:=fun hB => e (M.inj i K m H n b L N hB);obtain ⟨k1,k2,k3,k4⟩:=M.raw i m n b;exact ⟨k1,(zP g.ow _ Y).trans k2,k3,k4⟩
   ·have e1 : i ≠ K:=fun e => by subst e; rw [d] at b; cases b
    have e2 : j ≠ K:=fun e => by subst e; rw [d] at r; cases r
    rw [ziq e1] at b;rw [ziq e2] at r;exact M.inj i j m hj n b J r hB
def zwk (xs : List Oper) (p : Nat) (D : Nat → Bool) (K : Nat) : Prop:=K = p ∨ (eff xs K = true ∧ D K = false)
theorem zxU (C : Chk2 P κ nt gops ps xs ms p) (c : ∀ i x,xs[i]? = some x → step Cf (rr i) x = some (rr (i + 1))) (b : (rr 0).env.length = κ.length) {D : Nat → Bool} {B : Nat → Nat} {w : World} {a : Act} : ∀ (n K : Nat) (g : G),p - K = n →
  Mid2 P gops xs κ nt p rr g0 w0 σ0 D K B g w a → ∃ K' g',Mid2 P gops xs κ nt p rr g0 w0 σ0 D K' B g' w a ∧ zwk xs p D K'
 | 0,K,g,hn,M => ⟨K,g,M,.inl (by have:=M.kp; omega)⟩
 | n + 1,K,g,hn,M => by
   by_cases h : eff xs K = false ∨ D K = true
   ·obtain ⟨g',d⟩:=zyt C c b M (by omega) h
    exact zxU C c b n (K + 1) g' (by omega) d
   ·simp only [not_or,Bool.not_eq_false,Bool.not_eq_true] at h
    exact ⟨K,g,M,.inr h⟩
theorem zyC {D : Nat → Bool} {K j : Nat} (a : zwk xs p D K) (h : D j = true) (b : j < p) (he : eff xs j = true) : j ≠ K:=fun e => by
 subst e;rcases a with a | ⟨_,a⟩
 ·omega
 ·rw [h] at a; cases a
theorem Raw.ext {g g' : G} {w w' : World} {a m : Act} {σ σ' : zb} {i b : Nat} (h : Raw P gops xs rr w0 g w a i b) (H : Ext g w σ g' w' σ') (u : ∀ t,(∃ o,gops[i]? = some o ∧ o.dst = some t) → m.tmps.getD t undef = a.tmps.getD t undef) : Raw P gops xs rr w0 g' w' m i b:=by
 obtain ⟨⟨o,x,sz,es,arr,ty,t,kd,l,p,q,n,j,s,k⟩,e,d,f⟩:=h;have c : b < w.heap.size:=(yc.1 j).1;exact ⟨⟨o,x,sz,es,arr,ty,t,kd,l,p,q,n,(H.frame b c e).trans j,(u t ⟨o,l,n⟩).trans s,k⟩,(H.ow b c).trans e,fun o r => d o (H.new b o r c e),f⟩
def zkW (gops : Array Go.Oper) (i : Nat) : Option Tmp:=(gops[i]?).bind (·.dst)
theorem zra (C : Chk2 P κ nt gops ps xs ms p) (s : κ.Nodup) {i j : Nat} (o : i < p) (r : j < p) (m : i ≠ j) {t : Tmp} (n : zkW gops i = some t) (l : zkW gops j = some t) : False:=by
 have d : i < gops.size:=yj o C.p_le;have c : j < gops.size:=yj r C.p_le;have g : gops[i]? = some gops[i]:=yh d;have k : gops[j]? = some gops[j]:=yh c;have f : xs[i]? = some (xs[i]'(by rw [C.len]; exact d)):=yi (by rw [C.len]; exact d);have e : xs[j]? = some (xs[j]'(by rw [C.len]; exact c)):=yi (by rw [C.len]; exact c);have di:=(C.pre_some o g f).1;have dj:=(C.pre_some r k e).1;unfold zkW at n l;rw [g] at n;rw [k] at l;simp only [Option.bind_some] at n l;rw [n] at di;rw [l] at dj
 cases b : (xs[i]'(by rw [C.len]; exact d)).dst with
 | no => rw [b] at di; simp [okD] at di
 | loc =>
   rw [b] at di
   cases a : (xs[j]'(by rw [C.len]; exact c)).dst with
   | no => rw [a] at dj; simp [okD] at dj
   | loc =>
     have v : lo gops xs i = some t:=(by unfold lo; rw [g,f]; simp [zaH,n,b]);have e2 : lo gops xs j = some t:=(by unfold lo; rw [k,e]; simp [zaH,l,a]);exact m (C.plan.apart i j t o r v e2)
   | slot q =>
     rw [a] at dj;simp only [okD,beq_iff_eq] at dj;simp only [okD,yb,yk] at di;have : t ∈ κ:=ye dj;simp [this] at di
 | slot q =>
   rw [b] at di;simp only [okD,beq_iff_eq] at di
   cases a : (xs[j]'(by rw [C.len]; exact c)).dst with
   | no => rw [a] at dj; simp [okD] at dj
   | loc =>
     rw [a] at dj;simp only [okD,yb,yk] at dj;have : t ∈ κ:=ye di;simp [this] at dj
   | slot q' =>
     rw [a] at dj;simp only [okD,beq_iff_eq] at dj;have u : q = q':=zg9 s di dj;subst u;rcases Nat.lt_or_gt_of_ne m with h | h
     ·exact (C.pair h r f e).2.1 q (zeO b) (zeO a)
     ·exact (C.pair h o e f).2.1 q (zeO a) (zeO b)
theorem zj1 {a : Act} {d : Option Tmp} {u : Value} {t : Tmp} (h : d ≠ some t) : (a.put d u).tmps.getD t undef = a.tmps.getD t undef:=by
 cases d with
 | none => rfl
 | some t' =>
   simp only [Act.put,zfj];rw [if_neg (fun e => h (by rw [e.1]))]
end
section
variable {P : Program} {κ : List Tmp} {nt : Nat} {gops : Array Go.Oper} {ps : List (Nat × Nat)} {xs : List Oper} {ms : List Nat} {p b l : Nat} {Cf : zL} {rr : Nat → R} {g0 : G} {w0 : World} {σ0 : zb}
theorem zz9 (C : Chk2 P κ nt gops ps xs ms p) {D : Nat → Bool} {K j i : Nat} (a : zfl gops D) (r : ∀ i ∈ zae gops j,D i = true) (m : zwk xs p D K) (f : i < j) (s : j < p) {x y : Oper} (o : xs[i]? = some x) (q : xs[j]? = some y) (e : D i = true)
  (hu : zut x = true → zru xs gops j i y = true) : vis xs D K i = true:=by
 cases he : eff xs i with
 | false => simp [vis,e,he]
 | true =>
   have l:=zyC m e (by omega) he
   have k : i < K:=by
    rcases Nat.lt_trichotomy i K with h | h | h
    ·exact h
    ·exact absurd h l
    ·rcases m with m | ⟨b,d⟩
     ·omega
     ·have g : K < xs.length:=by have:=C.w.le; omega
      have n : xs[K]? = some xs[K]:=yi g;rcases (C.pair h (by omega) n o).2.2.1 b he with c | t
      ·have:=(C.pair f s o q).2.2.2 c (hu c) K h b
       have:=zaA a this r;rw [d] at this; cases this
      ·have:=zaA a t (a i e)
       rw [d] at this; cases this
   simp [vis,e,k]
theorem zoA (C : Chk2 P κ nt gops ps xs ms p) (m : ∀ i x,xs[i]? = some x → step Cf (rr i) x = some (rr (i + 1))) (e : (rr 0).env.length = κ.length) (n : κ.Nodup) (k : ∀ t ∈ κ,t < nt) {D : Nat → Bool} {K j : Nat} {B : Nat → Nat} {g : G} {w : World} {a : Act}
  (s : j ≤ p) (f : Nat → Option Tmp) (o : ∀ i t,i < j → f i = some t → vis xs D K i = true ∧ lo gops xs i = some t) (M : Mid2 P gops xs κ nt p rr g0 w0 σ0 D K B g w a) :
  Fr κ ((yf j).reverse.map f) nt g w ⟨(yf j).reverse.map (zaI rr),zl4 rr xs p D K,(rr K).st,b,l⟩ a:=by
 refine ⟨M.size,by simp [zl4,e],fun i t r => by simp only [zkf C.w m]; exact M.slot i t r,fun d t hd _ => ?_,fun d t hd => ?_,n,k,M.df⟩
 ·have c : d < j:=by have:=za hd; simpa using this
  rw [zhu f c] at hd;injection hd with hd;obtain ⟨q,h⟩:=o _ t (by omega) hd;simp only [ya,zhu (zaI rr) c,Option.getD_some];exact M.done _ t (by omega) q h
 ·have c : d < j:=by have:=za hd; simpa using this
  rw [zhu f c] at hd;injection hd with hd;obtain ⟨_,h⟩:=o _ t (by omega) hd;exact zmQ C.plan (by omega : j - 1 - d < p) h
theorem znp {D : Nat → Bool} {K a j i : Nat} (h : (a = K ∧ eff xs j = false) ∨ (a = K + 1 ∧ j = K)) : vis xs (zaJ D j) a i = if i = j then true else vis xs D K i:=by
 by_cases e : i = j
 ·subst e
  rw [if_pos rfl];rcases h with ⟨_,h⟩ | ⟨rfl,rfl⟩
  ·simp [vis,zaJ,h]
  ·simp [vis,zaJ]
 ·rw [if_neg e]
  have : zaJ D j i = D i:=by simp [zaJ,e]
  unfold vis;rw [this];rcases h with ⟨rfl,_⟩ | ⟨rfl,rfl⟩
  ·rfl
  ·have : decide (i < j + 1) = decide (i < j):=by
    simp only [decide_eq_decide];omega
   rw [this]
theorem zqK (C : Chk2 P κ nt gops ps xs ms p) (L : ∀ i x,xs[i]? = some x → step Cf (rr i) x = some (rr (i + 1))) (O : (rr 0).env.length = κ.length) (aA : κ.Nodup) {D : Nat → Bool} {K n j : Nat} {B : Nat → Nat} {g g' : G} {w w' : World} {a : Act} {u : Value} {o : Go.Oper} {x : Oper} {v : V} {σ1 : zb}
  (M : Mid2 P gops xs κ nt p rr g0 w0 σ0 D K B g w a) (E : (n = K ∧ eff xs j = false) ∨ (n = K + 1 ∧ j = K)) (W : j < p) (aF : D j = false) (ho : gops[j]? = some o) (S : xs[j]? = some x) (hv : rr (j + 1) = ((rr j).at σ1).put x.dst v)
  (H : Ext g w (rr K).st g' w' (rr n).st) (R1 : Rel g' w' (rr n).st)
  (F : Fr κ (zaH o.dst x.dst :: zdi gops xs j) nt g' w' ((⟨(yf j).reverse.map (zaI rr),zl4 rr xs p D K,(rr n).st,b,l⟩ : R).put x.dst v) (a.put o.dst u)) :
  Mid2 P gops xs κ nt p rr g0 w0 σ0 (zaJ D j) n B g' w' (a.put o.dst u):=by
 have J : x.dst = .loc → zaI rr j = v:=fun h => by unfold zaI; rw [hv,h]; rfl
 have aE:=(C.pre_some W ho S).1
 have aC : n ≤ p:=by
  rcases E with ⟨rfl,_⟩ | ⟨rfl,rfl⟩
  ·exact M.kp
  ·omega
 have A : ((⟨(yf j).reverse.map (zaI rr),zl4 rr xs p D K,(rr n).st,b,l⟩ : R).put x.dst v).st = (rr n).st:=zcX _ _ _;have hold : ∀ i,i ≠ j → i < p → vis xs (zaJ D j) n i = vis xs D K i:=fun i f _ => by rw [znp E,if_neg f]
 have z : ∀ i,i ≠ j → i < p → ∀ t,zkW gops i = some t → (a.put o.dst u).tmps.getD t undef = a.tmps.getD t undef:=fun i f Z t d => zj1 fun e =>
  zra C aA Z W f d (by unfold zkW; rw [ho]; exact e)
 refine ⟨M.ext.trans H,R1,F.size,F.df,fun q t d => ?_,fun i t f c d => ?_,aC,fun i f N => ?_,fun i f I c => ?_,fun i i' f Q I c r m hB => ?_⟩
 ·have hf:=F.env q t d
  rw [A] at hf
  have e : ((⟨(yf j).reverse.map (zaI rr),zl4 rr xs p D K,(rr n).st,b,l⟩ : R).put x.dst v).env.getD q vun = zcr rr xs p (zaJ D j) n q:=by
   by_cases hw : writes x = some q
   ·have hd:=zo4 hw
    rw [hd];have hq : q < (rr 0).env.length:=(by rw [O]; exact za d);have X : q < (rr j).env.length:=(by rw [(zej C.w L j (yo W)).1]; exact hq);have aB:=zyJ C.w W S hw;unfold zcr;rw [aB];simp only [znp E,if_true];rw [hv,hd];simp [R.put,R.at,ya,zl4,hq,X]
   ·have e1 : ((⟨(yf j).reverse.map (zaI rr),zl4 rr xs p D K,(rr n).st,b,l⟩ : R).put x.dst v).env.getD q vun = (zl4 rr xs p D K).getD q vun:=by
     cases hd : x.dst with
     | no => rfl
     | loc => rfl
     | slot q' =>
       have s : q' ≠ q:=fun e => hw (by rw [← e]; exact zeO hd);simp only [R.put,ya,List.getElem?_set_ne s]
    rw [e1,zkf C.w L];unfold zcr;split
    ·rename_i k hk
     obtain ⟨k1,x',U,k3⟩:=zek hk
     have s : k ≠ j:=fun e => by subst e; rw [S] at U; injection U with U; subst U; exact hw k3
     have : zaJ D j k = D k:=(by simp [zaJ,s]);rw [hold k s k1,this]
    ·rfl
  rw [e] at hf;exact hf
 ·by_cases e : i = j
  ·subst e
   have y : zaH o.dst x.dst = some t:=by
    unfold lo at d;rw [ho,S] at d;exact d
   have hd : x.dst = .loc:=by
    unfold zaH at y;split at y
    ·rename_i h; exact h
    ·cases y
   have Y:=F.lc 0 t (by simp [y]) (by simp);rw [A] at Y;rw [J hd];rw [hd] at Y;simpa [R.put] using Y
  ·rw [hold i e f] at c
   have:=H.ze _ _ (M.done i t f c d)
   have aD : zkW gops i = some t:=by
    unfold lo at d;unfold zkW;split at d
    ·rename_i o' x' h1 h2
     rw [h1];unfold zaH at d;split at d
     ·rename_i h3 _; injection d with d; subst d; exact h3
     ·cases d
    ·cases d
   rw [z i e f t aD];exact this
 ·by_cases e : i = j
  ·subst e; simp [zaJ]
  ·have : zaJ D j i = D i:=by simp [zaJ,e]
   rw [this];rcases E with ⟨rfl,_⟩ | ⟨rfl,rfl⟩
   ·exact M.before i f N
   ·exact M.before i (by omega) N
 ·have e : i ≠ j:=fun e => by subst e; rw [znp E,if_pos rfl] at c; cases c
  rw [hold i e f] at c;have r : D i = true:=by simpa [zaJ,e] using I
  exact (M.raw i f r c).ext H fun t ⟨o',h1,h2⟩ => z i e f t (by unfold zkW; rw [h1]; exact h2)
 ·have e : i ≠ j:=fun e => by subst e; rw [znp E,if_pos rfl] at c; cases c
  have e' : i' ≠ j:=fun e => by subst e; rw [znp E,if_pos rfl] at m; cases m
  rw [hold i e f] at c;rw [hold i' e' Q] at m;exact M.inj i i' f Q (by simpa [zaJ,e] using I) c (by simpa [zaJ,e'] using r) m hB
theorem zqx (C : Chk2 P κ nt gops ps xs ms p) (X : κ.Nodup) (aG : ∀ t ∈ κ,t < nt) {D : Nat → Bool} {K j : Nat} {B : Nat → Nat} {g : G} {w : World} {a : Act} {o : Go.Oper} {x : Oper}
  (M : Mid2 P gops xs κ nt p rr g0 w0 σ0 D K B g w a) (hj : j < p) (aJ : K < j) (he : eff xs j = true) (R : zut x = true) (ho : gops[j]? = some o) (Z : xs[j]? = some x) {t : Tmp} (f : o.dst = some t)
  {sz : Nat} {es : List (List Go.A.C)} {arr : Array Value} {ty : TypeId} {kd : Mk} (aF : arr.size = es.length * sz) (S : ∀ g w σ,zb9 g w σ arr sz es) (aI : kd.ok sz es) (N : rr (j + 1) = ((rr j).at ((rr j).st ++ [.cells 0 sz es])).put x.dst (kd.v (rr j).st.length)) :
  ∃ g' B',Mid2 P gops xs κ nt p rr g0 w0 σ0 (zaJ D j) K B' g' (w.alloc (.cells arr ty)) (a.put o.dst (kd.u w.heap.size)):=by
 obtain ⟨V,I,_⟩:=zfZ R;obtain ⟨k,_,hc,_⟩:=C.pre_some hj ho Z
 have J : t < nt ∧ (t ∈ κ → ∃ q,x.dst = .slot q ∧ κ[q]? = some t):=by
  rw [f] at k;rcases I with I | ⟨q,I⟩
  ·rw [I] at k
   simp only [okD,yb,yk,decide_eq_true_eq] at k;exact ⟨k.2,fun h => absurd h (by simpa using k.1)⟩
  ·rw [I] at k
   simp only [okD,beq_iff_eq] at k;exact ⟨aG t (ye k),fun _ => ⟨q,I,k⟩⟩
 let ob : Obj:=.cells arr ty
 let g' : G:={ g with ow:=zr1 g.ow w.heap.size .no }
 have H : Ext g w (rr K).st g' (w.alloc ob) (rr K).st:=by
  have:=Ext.alloc M.rel ob g' (fun _ _ => rfl) (fun _ _ _ _ => rfl) (fun b hb => zP g.ow _ (by omega)) (fun _ _ _ => Iff.rfl) [];simpa using this
 have R1 : Rel g' (w.alloc ob) (rr K).st:=⟨fun b i h => by rw [size_alloc]; have:=M.rel.nb b i h; omega,fun id U h => zbi H rfl (fun _ => rfl) (fun b hb _ => ⟨heap_alloc_old w ob hb,zP g.ow _ (by omega),fun _ h => h⟩) (M.rel.ob id U h)⟩;refine ⟨g',zr1 B j w.heap.size,?_⟩;have W : vis xs (zaJ D j) K j = false:=by simp [vis,zaJ,he]; omega
 have hold : ∀ i,i ≠ j → vis xs (zaJ D j) K i = vis xs D K i:=fun i l => by simp [vis,zaJ,l]
 have L : ∀ i,i ≠ j → i < p → ∀ r,zkW gops i = some r → ∀ u,(a.put o.dst u).tmps.getD r undef = a.tmps.getD r undef:=fun i l aH r ht u => zj1 fun e =>
  zra C X aH hj l ht (by unfold zkW; rw [ho]; exact e)
 have y : ∀ i,i < p → D i = true → vis xs D K i = false → B i < w.heap.size:=fun i l s d => by
  obtain ⟨⟨_,_,_,_,_,_,_,_,_,_,_,_,h7,_⟩,_⟩:=M.raw i l s d;exact (yc.1 h7).1
 refine ⟨M.ext.trans H,R1,by simp [Act.put,f,M.size],by simp [Act.put,f,M.df],fun q r c => ?_,fun i r l d c => ?_,M.kp,fun i l aB => ?_,fun i l s d => ?_,fun i O l Y s d n m hB => ?_⟩
 ·by_cases hw : writes x = some q
  ·have aC:=zyJ C.w hj Z hw
   unfold zcr;rw [aC];simp only [W,Bool.false_eq_true,if_false];have : zaJ D j j = true:=(by simp [zaJ]);rw [this];simp only [if_true,vun,ze,zq]
  ·have e1 : zcr rr xs p (zaJ D j) K q = zcr rr xs p D K q:=by
    unfold zcr;split
    ·rename_i k' hk
     obtain ⟨_,x',k2,k3⟩:=zek hk
     have Q : k' ≠ j:=fun e => by subst e; rw [Z] at k2; injection k2 with k2; subst k2; exact hw k3
     have : zaJ D j k' = D k':=(by simp [zaJ,Q]);rw [hold k' Q,this]
    ·rfl
   rw [e1]
   have e2 : o.dst ≠ some r:=fun e => by
    rw [f] at e;injection e with e;subst e;obtain ⟨q',aA,aE⟩:=J.2 (ye c);have:=zg9 X aE c;subst this;exact hw (zeO aA)
   rw [zj1 e2];exact H.ze _ _ (M.slot q r c)
 ·have e : i ≠ j:=fun e => by subst e; rw [W] at d; cases d
  rw [hold i e] at d
  have aD : zkW gops i = some r:=by
   unfold lo at c;unfold zkW;split at c
   ·rename_i U x' V I
    rw [V];unfold zaH at c;split at c
    ·rename_i h3 _; injection c with c; subst c; exact h3
    ·cases c
   ·cases c
  rw [L i e l r aD];exact H.ze _ _ (M.done i r l d c)
 ·have : i ≠ j:=by omega
  have h0 : zaJ D j i = D i:=by simp [zaJ,this]
  rw [h0];exact M.before i l aB
 ·by_cases e : i = j
  ·subst e
   rw [zcv];refine ⟨⟨o,x,sz,es,arr,ty,t,kd,ho,Z,R,f,z7 w ob,?_,aF,S,aI,N⟩,zcv g.ow _ _,fun U hN => ?_,M.ext.size⟩
   ·rw [f]
    simp [Act.put,M.size,J.1]
   ·have:=M.rel.nb _ U hN
    omega
  ·rw [hold i e] at d
   have n : D i = true:=(by simpa [zaJ,e] using s);rw [zP B _ e];exact (M.raw i l n d).ext H fun r ⟨U,V,I⟩ => L i e l r (by unfold zkW; rw [V]; exact I) _
 ·by_cases e : i = j
  ·by_cases E : O = j
   ·rw [e,E]
   ·subst e
    rw [hold O E] at m;have z : D O = true:=(by simpa [zaJ,E] using n);have:=y O Y z m;rw [zcv,zP B _ E] at hB;omega
  ·rw [hold i e] at d
   have z : D i = true:=(by simpa [zaJ,e] using s);have V:=y i l z d
   by_cases E : O = j
   ·subst E
    rw [zcv,zP B _ e] at hB;omega
   ·rw [hold O E] at m
    rw [zP B _ e,zP B _ E] at hB;exact M.inj i O l Y z d (by simpa [zaJ,E] using n) m hB
theorem zyD (C : Chk2 P κ nt gops ps xs ms p) (J : ∀ i x,xs[i]? = some x → step Cf (rr i) x = some (rr (i + 1))) (S : κ.Nodup) (W : ∀ t ∈ κ,t < nt) {D : Nat → Bool} {K j : Nat} {B : Nat → Nat} {g : G} {w : World} {a : Act} {o : Go.Oper} {x : Oper} {next : Act → World → Prop} {Q : Exit → Act → World → Prop} {r' : R}
  (M : Mid2 P gops xs κ nt p rr g0 w0 σ0 D K B g w a) (hj : j < p) (U : K < j) (he : eff xs j = true) (d : zut x = true) (ho : gops[j]? = some o) (I : xs[j]? = some x)
  (F : Fr κ (zdi gops xs j) nt g w r' a) (L : ∀ y ∈ zcP x,r'.get y = (rr j).get y)
  (k : ∀ g' w' u B',Mid2 P gops xs κ nt p rr g0 w0 σ0 (zaJ D j) K B' g' w' (a.put o.dst u) → next (a.put o.dst u) w') : o.wp P a w next Q:=by
 obtain ⟨h1,h2,b⟩:=zfZ d;obtain ⟨E,_,h,_⟩:=C.pre_some hj ho I
 obtain ⟨t,v⟩ : ∃ t,o.dst = some t:=by
  cases hd : o.dst with
  | some t => exact ⟨t,rfl⟩
  | none =>
    rw [hd] at E;rcases h2 with h2 | ⟨q,h2⟩ <;> rw [h2] at E <;> simp [okD] at E
 rcases b with ⟨zero,b⟩ | ⟨zero,n,b⟩
 ·have hs:=zBu d b (J j x I)
  rw [b] at h;simp only [zkj] at h;split at h
  ·rename_i ty aE
   obtain ⟨X,hz,r,_⟩:=ziZ h;obtain ⟨i,z,H,k2,k3⟩:=zby hz;have aA : z.cells = X.toArray:=(by rw [← k3]);obtain ⟨s,q2⟩:=zal (g:=g) (w:=w) (σ:=[]) r;have hl : X.length = zero.length:=zw s
   obtain ⟨g',B',M'⟩:=zqx (sz:=zero.length) (es:=[zero]) (arr:=X.toArray) (ty:=ty) (kd:=.ptr) C S W M hj U he d ho I v (by simp [hl]) (fun g w σ => by
    obtain ⟨f,A⟩:=zal (g:=g) (w:=w) (σ:=σ) r
    exact zla f A) rfl hs
   refine zjT (u:=.pointer (some ⟨w.heap.size,0,none⟩)) (w':=w.alloc (.cells X.toArray ty)) ?_ (k g' _ _ B' M');unfold execOp;simp only [aE];simp [Instr.alloc,zbl (w:=w) H k2,newVar,newRow,aA]
  ·cases h
 ·obtain ⟨kk,m,hv,aC,aF,hs⟩:=zAY d b (J j x I)
  have aB:=L n (by rw [show zcP x = opX x.op ++ _ from rfl,b]; simp [opX]);rw [b] at h;simp only [zkj] at h;split at h
  ·rename_i t' l c aD
   simp only [yb,beq_iff_eq] at h;obtain ⟨⟨rfl,s⟩,q2⟩:=h;split at s
   ·rename_i e ht
    split at s
    ·rename_i i hi
     simp only [yb,decide_eq_true_eq] at s;obtain ⟨⟨h3,h4⟩,Z⟩:=s;split at Z
     ·rename_i X hz
      simp only [yb,beq_iff_eq] at Z;obtain ⟨⟨h6,h7⟩,_⟩:=Z;obtain ⟨i',z,H,k2,k3⟩:=zby hz;rw [hi] at H;injection H with H;subst H;subst k3;have r : z.cells.size = i.size:=by simpa using h6
      have O : zero.length = i.size:=by
       obtain ⟨f,_⟩:=zal (g:=g) (w:=w) (σ:=[]) h7;rw [← zw f];exact h6
      have V:=F.get q2;rw [aB,hv] at V;obtain ⟨ex,_⟩:=zH V
      have Y : (execOp a.eval o).run P w = .ok (.value (.slice (some ⟨w.heap.size,0,none⟩) m.toNat m.toNat)) (w.alloc (.cells (madeCells z.cells (m.toNat * i.size)).toList.toArray e)):=by
       unfold execOp;simp only [aD,ex,Sem.run_bind,zq7 (P:=P) (w:=w) ht hi k2 aC aF h3,Result.andThen_ok,Sem.run_pure]
      have N : ∀ g w σ,zb9 g w σ (madeCells z.cells (m.toNat * i.size)).toList.toArray zero.length (yl m.toNat zero):=fun g w σ => by
       obtain ⟨f,A⟩:=zal (g:=g) (w:=w) (σ:=σ) h7;have:=zjM (g:=g) (w:=w) (σ:=σ) (es:=yl m.toNat zero) r h4 (fun e he => by rw [(List.mem_replicate.1 he).2]; exact f) A;rw [List.length_replicate] at this;rw [Array.toArray_toList,O];exact this
      obtain ⟨g',B',M'⟩:=zqx (sz:=zero.length) (es:=yl m.toNat zero) (arr:=(madeCells z.cells (m.toNat * i.size)).toList.toArray) (ty:=e) (kd:=.own m.toNat) C S W M hj U he d ho I v (by simp [size_madeCells,O]) N (by simp [Mk.ok]) hs;exact zjT Y (k g' _ _ B' M')
     ·cases Z
    ·cases s
   ·cases s
  ·cases h
end
end Go.A

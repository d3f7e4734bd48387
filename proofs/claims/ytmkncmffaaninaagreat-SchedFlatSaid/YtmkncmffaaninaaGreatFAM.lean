/- A part of the proof of SchedFlat. Conditions: none. -/
import Derived.Test.YtmkncmffaaninaaGreatFAL
set_option linter.all false
open List renaming getD_eq_getElem?_getD → ya,getElem?_append_left → yd,mem_of_getElem? → ye,range → yf,all_eq_true → yg,getElem?_eq_getElem → yi,replicate → yl
open Bool renaming and_eq_true → yb,not_eq_true' → yk,or_eq_true → yn
open Array renaming getElem?_eq_some_iff → yc,getElem?_eq_getElem → yh
open Nat renaming lt_of_lt_of_le → yj,le_refl → ym,le_of_lt → yo
namespace Go.A
def zwE : Oper → Bool
 | ⟨.loc,.al _ [],none⟩ => true
 | ⟨.slot _,.al _ [],none⟩ => true
 | ⟨.loc,.mks _ none _,none⟩ => true
 | _ => false
def eff (xs : List Oper) (i : Nat) : Bool:=decide (3 ≤ cls xs i)
def zEC (ms : List Nat) (xs : List Oper) (p j K : Nat) : Bool:=!(decide (K < p) && bit ms j K) && (yf K).all fun e => !(eff xs e && bit ms e j)
def harmless (xs : List Oper) (p c j K : Nat) : Bool:=(yf p).all fun i => !(eff xs i) || !(decide (min j K ≤ i) && decide (i < max j K)) || cls xs i == 4 || (c == 1 && decide (cls xs i ≤ 4))
def zwU : D → Bool
 | .loc => true
 | _ => false
def zGo : Op → Bool
 | .call _ _ _ => false
 | _ => true
def zuK (ms : List Nat) (xs : List Oper) (ps : List (Nat × Nat)) (p j : Nat) (x : Oper) : Bool :=
 zaS x.op == 0 || decide (3 ≤ zaS x.op) || (yf (p + 1)).all fun K => !(K == p || eff xs K) || !(zEC ms xs p j K) || harmless xs p (zaS x.op) j K || (ps.contains (j,K) && zwU x.dst && zGo x.op)
def zsZ (xs : List Oper) (gops : Array Go.Oper) (j i : Nat) (y : Oper) : Bool:=(zaw gops j).contains i || (match (xs[i]?).bind writes with
 | some q => zfC q y
 | none => false)
def zrD (ms : List Nat) (gops : Array Go.Oper) (xs : List Oper) (i j : Nat) : Bool:=match xs[i]?,xs[j]? with
 | some x,some y => (zgn x y || bit ms j i) && (match writes x,writes y with
   | some q,some q' => q != q'
   | _,_ => true) && (!(eff xs i && eff xs j) || zwE y || bit ms j i) && (!(zwE x && zsZ xs gops j i y) || (yf i).all fun e => !(eff xs e) || bit ms j e)
 | _,_ => false
def zuZ (P : Program) (κ : List Tmp) (nt : Nat) (gops : Array Go.Oper) (ps : List (Nat × Nat)) (xs : List Oper) (ms : List Nat) (p j : Nat) : Bool:=match gops[j]?,xs[j]? with
 | some o,some x => okD κ nt o.dst x.dst && zfO κ (zft gops xs j) gops o.guard x.guard && zmm P κ (zft gops xs j) o x.dst x.op && (zeQ x).all (zwt (zft gops xs j)) && (yf j).all (fun i => zrD ms gops xs i j) && zuK ms xs ps p j x
 | _,_ => false
def zoC (P : Program) : List Tmp → Nat → Array Go.Oper → List (Nat × Nat) → List Oper → Bool:=fun κ nt gops ps xs =>
 let ms:=zmC gops.toList []
 let p:=zoo ms gops.size
 zix gops ms && xs.length == gops.size && decide (p ≤ gops.size) && zj2 (zEe gops xs p) && (yf p).all (zuZ P κ nt gops ps xs ms p) && (yf gops.size).all fun j => decide (j < p) || ziX P κ nt gops xs ms j
structure Chk2 (P : Program) (κ : List Tmp) (nt : Nat) (gops : Array Go.Oper) (ps : List (Nat × Nat)) (xs : List Oper) (ms : List Nat) (p : Nat) : Prop where
 masks : zix gops ms = true
 len : xs.length = gops.size
 p_le : p ≤ gops.size
 dup : zj2 (zEe gops xs p) = true
 pre : ∀ j,j < p → zuZ P κ nt gops ps xs ms p j = true
 tail : ∀ j,p ≤ j → j < gops.size → ziX P κ nt gops xs ms j = true
section
variable {P : Program} {κ : List Tmp} {nt : Nat} {gops : Array Go.Oper} {ps : List (Nat × Nat)} {xs : List Oper} {ms : List Nat} {p b l : Nat} {Cf : zae} {rr : Nat → R}
theorem zD5 (h : zoC P κ nt gops ps xs = true) : ∃ ms p,Chk2 P κ nt gops ps xs ms p:=by
 unfold zoC at h;simp only [yb,beq_iff_eq,decide_eq_true_eq] at h;obtain ⟨⟨⟨⟨⟨c,i⟩,e⟩,f⟩,d⟩,g⟩:=h;refine ⟨_,_,c,i,e,f,fun j b => yg.1 d j (by simpa using b),fun j b a => ?_⟩;have:=yg.1 g j (by simpa using a);simp only [yn,decide_eq_true_eq] at this;rcases this with h | h
 ·omega
 ·exact h
theorem Chk2.pre_some (C : Chk2 P κ nt gops ps xs ms p) {j : Nat} (m : j < p) {o : Go.Oper} {x : Oper} (k : gops[j]? = some o) (f : xs[j]? = some x) :
  okD κ nt o.dst x.dst = true ∧ zfO κ (zft gops xs j) gops o.guard x.guard = true ∧ zmm P κ (zft gops xs j) o x.dst x.op = true ∧ (∀ y ∈ zeQ x,zwt (zft gops xs j) y = true) ∧ (∀ i,i < j → zrD ms gops xs i j = true) ∧ zuK ms xs ps p j x = true:=by
 have h:=C.pre j m;unfold zuZ at h;rw [k,f] at h;simp only [yb] at h;obtain ⟨⟨⟨⟨⟨a,l⟩,c⟩,d⟩,b⟩,g⟩:=h;exact ⟨a,l,c,fun y n => yg.1 d y n,fun i e => yg.1 b i (by simpa using e),g⟩
theorem Chk2.plan (C : Chk2 P κ nt gops ps xs ms p) : Plan P κ nt gops xs p where
 len:=C.len
 p_le:=C.p_le
 back:=fun j o a i c => by
  have b : j < gops.size:=(yc.1 a).1;exact (zkJ C.masks b).2 i (by unfold zaw; rw [a]; exact c)
 pre:=fun j o x b a f => (C.pre_some b a f).1
 apart:=fun i j t c b e g => zkH C.dup List.nodup_range i (by simpa using c) j (by simpa using b) t e g
 tail:=fun j o x b a f => by
  have d : j < gops.size:=(yc.1 a).1;have h:=C.tail j b d;unfold ziX at h;rw [a,f] at h;simp only [yb] at h;obtain ⟨⟨⟨e,g⟩,l⟩,k⟩:=h;exact ⟨e,g,l,fun i c => zeV C.masks j d (yg.1 k i (by simpa using c))⟩
theorem Chk2.pair (C : Chk2 P κ nt gops ps xs ms p) {i j : Nat} (d : i < j) (n : j < p) {x y : Oper} (r : xs[i]? = some x) (o : xs[j]? = some y) :
  (zgn x y = true ∨ Reach gops j i) ∧ (∀ q,writes x = some q → writes y ≠ some q) ∧ (eff xs i = true → eff xs j = true → zwE y = true ∨ Reach gops j i) ∧
  (zwE x = true → zsZ xs gops j i y = true → ∀ e,e < i → eff xs e = true → Reach gops j e):=by
 have a : j < gops.size:=yj n C.p_le;have h:=(C.pre_some n (yh a) o).2.2.2.2.1 i d;unfold zrD at h;rw [r,o] at h;simp only [yb,yn] at h;obtain ⟨⟨⟨t,m⟩,b⟩,c⟩:=h;refine ⟨t.imp id fun h => zeV C.masks j a h,fun q u g => ?_,fun k l => ?_,fun s hu e he f => ?_⟩
 ·rw [u,g] at m
  simp at m
 ·rcases b with (b | b) | b
  ·simp [k,l] at b
  ·exact .inl b
  ·exact .inr (zeV C.masks j a b)
 ·rcases c with c | c
  ·simp [s,hu] at c
  ·have:=yg.1 c e (by simpa using he)
   simp only [yn,yk] at this;rcases this with h | h
   ·rw [f] at h; cases h
   ·exact zeV C.masks j a h
theorem Chk2.w (C : Chk2 P κ nt gops ps xs ms p) : ChkW xs p:=⟨by rw [C.len]; exact C.p_le,fun a c _ _ b d => (C.pair a c b d).2.1⟩
def vis (xs : List Oper) (D : Nat → Bool) (K k : Nat) : Bool:=D k && (!(eff xs k) || decide (k < K))
def zdS (rr : Nat → R) (xs : List Oper) (p : Nat) (D : Nat → Bool) (K q : Nat) : V:=match wr xs p q with
 | some k => if vis xs D K k then (rr (k + 1)).env.getD q vun else if D k then vun else (rr 0).env.getD q vun
 | none => (rr 0).env.getD q vun
def zoq (rr : Nat → R) (xs : List Oper) (p : Nat) (D : Nat → Bool) (K : Nat) : List V:=(yf (rr 0).env.length).map (zdS rr xs p D K)
theorem zmi {D : Nat → Bool} {K q : Nat} (C : ChkW xs p) (b : ∀ i x,xs[i]? = some x → step Cf (rr i) x = some (rr (i + 1))) : (zoq rr xs p D K).getD q vun = zdS rr xs p D K q:=by
 unfold zoq
 by_cases a : q < (rr 0).env.length
 ·simp [ya,a]
 ·have e0 : (rr 0).env.getD q vun = vun:=by simp [ya,a]
  have e1 : ((yf (rr 0).env.length).map (zdS rr xs p D K)).getD q vun = vun:=by simp [ya,a]
  rw [e1];unfold zdS;split
  ·rename_i k c
   obtain ⟨e,_⟩:=zgw c;have d:=(zgr C b (k + 1) (by omega)).1;split
   ·simp [ya,d,a]
   ·split
    ·rfl
    ·exact e0.symm
  ·exact e0.symm
inductive Mk where
 | ptr
 | own (n : Nat)
def Mk.v (id : Nat) : Mk → V
 | .ptr => .one (.ptr (id + 0) 0 0 0)
 | .own n => .one (.own id 0 0 n)
def Mk.u (b : Nat) : Mk → Value
 | .ptr => .pointer (some ⟨b,0,none⟩)
 | .own n => .slice (some ⟨b,0,none⟩) n n
def Mk.ok (sz : Nat) (es : List (List C)) : Mk → Prop
 | .ptr => es.length = 1
 | .own n => es.length = n
structure Raw (P : Program) (gops : Array Go.Oper) (xs : List Oper) (rr : Nat → R) (w0 : World) (g : G) (w : World) (a : Act) (i b : Nat) : Prop where
 it : ∃ (o : Go.Oper) (x : Oper) (sz : Nat) (es : List (List C)) (arr : Array Value) (ty : TypeId) (t : Tmp) (kd : Mk),gops[i]? = some o ∧ xs[i]? = some x ∧ zwE x = true ∧ o.dst = some t ∧ w.heap[b]? = some (.cells arr ty) ∧ a.tmps.getD t undef = kd.u b ∧
  arr.size = es.length * sz ∧ (∀ g w σ,zca g w σ arr sz es) ∧ kd.ok sz es ∧ rr (i + 1) = ((rr i).at ((rr i).st ++ [.cells 0 sz es])).put x.dst (kd.v (rr i).st.length)
 ow : g.ow b = .no
 no : ∀ o,¬ g.N b o
 new : w0.heap.size ≤ b
structure Mid2 (P : Program) (gops : Array Go.Oper) (xs : List Oper) (κ : List Tmp) (nt p : Nat) (rr : Nat → R) (g0 : G) (w0 : World) (σ0 : zd) (D : Nat → Bool) (K : Nat) (B : Nat → Nat) (g : G) (w : World) (a : Act) : Prop where
 ext : Ext g0 w0 σ0 g w (rr K).st
 rel : Rel g w (rr K).st
 size : a.tmps.size = nt
 df : a.defers = []
 slot : ∀ (i : Nat) (t : Tmp),κ[i]? = some t → zf g w (rr K).st (zdS rr xs p D K i) (a.tmps.getD t undef)
 done : ∀ i t,i < p → vis xs D K i = true → lo gops xs i = some t → zf g w (rr K).st (za6 rr i) (a.tmps.getD t undef)
 kp : K ≤ p
 before : ∀ i,i < K → eff xs i = true → D i = true
 raw : ∀ i,i < p → D i = true → vis xs D K i = false → Raw P gops xs rr w0 g w a i (B i)
 inj : ∀ i j,i < p → j < p → D i = true → vis xs D K i = false → D j = true → vis xs D K j = false → B i = B j → i = j
theorem zkk {D : Nat → Bool} {K i : Nat} (h : i ≠ K) : vis xs D (K + 1) i = vis xs D K i:=by
 unfold vis
 have : decide (i < K + 1) = decide (i < K):=by
  simp only [decide_eq_decide];omega
 rw [this]
theorem zeT {D : Nat → Bool} {K i : Nat} (h : eff xs K = false) : vis xs D (K + 1) i = vis xs D K i:=by
 by_cases e : i = K
 ·subst e
  unfold vis;simp [h]
 ·exact zkk e
theorem zFN {g g0 : G} {w w0 : World} {σ σ0 : zd} (R : Rel g w σ) (s : Ext g0 w0 σ0 g w σ) {b : Nat} {ty : TypeId} {arr : Array Value} {sz : Nat} {es : List (List C)} {kd : Mk} (B : arr.size = es.length * sz) (d : ∀ g w σ,zca g w σ arr sz es) (f : kd.ok sz es) (j : w.heap[b]? = some (.cells arr ty))
  (r : g.ow b = .no) (A : ∀ o,¬ g.N b o) (E : w0.heap.size ≤ b) :
  Ext g0 w0 σ0 (g.own σ.length b) w (σ ++ [.cells 0 sz es]) ∧ Rel (g.own σ.length b) w (σ ++ [.cells 0 sz es]) ∧
  (∀ v u,zf g w σ v u → zf (g.own σ.length b) w (σ ++ [.cells 0 sz es]) v u) ∧
  zf (g.own σ.length b) w (σ ++ [.cells 0 sz es]) (kd.v σ.length) (kd.u b):=by
 let g1 : G:={ g with ow:=zxW g.ow b (.ob σ.length) }
 have y : Rel g1 w σ:=zz6 R rfl rfl rfl (fun c id _ h => by
  by_cases e : c = b
  ·subst e; rw [r] at h; cases h
  ·exact (zaH g.ow _ e).trans h) (fun c t k _ h => by
  by_cases e : c = b
  ·subst e; rw [r] at h; cases h
  ·exact (zaH g.ow _ e).trans h)
 have H1 : Ext g0 w0 σ0 g1 w σ:={ s with ow:=fun c p => (zaH g.ow _ (by omega)).trans (s.ow c p) };have x : b < w.heap.size:=(yc.1 j).1
 have m : Ext g1 w σ (g.own σ.length b) w (σ ++ [.cells 0 sz es]):={
  os:=rfl
  tape:=rfl
  output:=rfl
  size:=ym _
  keeps:=fun _ _ h => ⟨h,rfl⟩
  len:=by simp
  shape:=fun id D sz len h => by
   obtain ⟨es,a,q⟩:=zaM h;have l:=zb a;exact .inl ⟨by unfold shapeOf; rw [yd l]; exact h,zaH g.ρ _ (by omega),fun _ arr t z => ⟨arr,z,rfl⟩⟩
  map:=fun id es h => ⟨zaH g.ρ _ (by have:=zb h; omega),es,by rw [yd (zb h)]; exact h⟩
  tok:=fun t k n h => by
   obtain ⟨sz,fr,a,q⟩:=zcR h;exact ⟨n,zdG (by rw [yd (zb a)]; exact a) q,ym _,fun _ => rfl⟩
  tsz:=fun t sz h => by
   obtain ⟨fr,a⟩:=zeD h;exact zb9 (fr:=fr) (by rw [yd (zb a)]; exact a)
  ow:=fun _ _ => rfl
  new:=fun _ _ h _ _ => h
  frame:=fun _ _ _ => rfl }
 refine ⟨H1.trans m,⟨R.nb,fun id ob h => ?_⟩,fun v u h => m.zf _ _ (zgW (g:=g) (g':=g1) rfl rfl rfl v u h),?_⟩
 ·by_cases l : id < σ.length
  ·rw [yd l] at h
   exact zcS m (zaH g.ρ _ (by omega)) (fun _ => rfl) (fun c _ _ => ⟨rfl,rfl,fun _ h => h⟩) (y.ob id ob h)
  ·have i : id = σ.length:=by
    have:=zb h;simp at this;omega
   subst i;simp at h;subst h;exact fun _ => ⟨by simp [G.own],fun o => by simp [G.own]; exact A o,arr,ty,by simpa [G.own] using j,by omega,d _ _ _⟩
 ·cases kd with
  | ptr =>
    simp only [Mk.v,Mk.u,zf,zy,Nat.add_zero];exact ⟨0,sz,es.length,zt (zkq σ _),ym _,fun _ => by simp [G.own],_,rfl⟩
  | own n =>
    simp only [Mk.ok] at f;subst f;simp only [Mk.v,Mk.u,zf,zy];refine ⟨0,sz,es.length,zt (zkq σ _),ym _,fun _ => ⟨_,_,rfl,ym _,fun h => h,fun _ => ⟨by omega,fun _ => by simp [G.own],arr,ty,?_,by rw [Nat.zero_add]; omega⟩⟩,_,_,rfl⟩;simpa [G.own] using j
end
section
variable {P : Program} {κ : List Tmp} {nt : Nat} {gops : Array Go.Oper} {ps : List (Nat × Nat)} {xs : List Oper} {ms : List Nat} {p b l : Nat} {Cf : zae} {rr : Nat → R} {g0 : G} {w0 : World} {σ0 : zd}
theorem zqT {x : Oper} {q : Nat} (h : writes x = some q) : x.dst = .slot q:=by
 obtain ⟨d,op,a⟩:=x;cases d <;> simp [writes] at h;subst h;rfl
theorem zgR {x : Oper} {q : Nat} (h : x.dst = .slot q) : writes x = some q:=by
 obtain ⟨d,op,a⟩:=x;simp only at h;subst h;rfl
theorem zsQ {α : Type} {l : List α} (c : l.Nodup) {i j : Nat} {x : α} (a : l[i]? = some x) (b : l[j]? = some x) : i = j:=by
 induction l generalizing i j with
 | nil => simp at a
 | cons y l ih =>
   rw [List.nodup_cons] at c
   cases i with
   | zero =>
     cases j with
     | zero => rfl
     | succ j =>
       simp at a b;subst a;exact absurd (ye b) c.1
   | succ i =>
     cases j with
     | zero =>
       simp at a b;subst b;exact absurd (ye a) c.1
     | succ j =>
       simp at a b;rw [ih c.2 a b]
theorem zio {x : Oper} (h : zwE x = true) : x.guard = none ∧ (x.dst = .loc ∨ ∃ q,x.dst = .slot q) ∧ ((∃ zero,x.op = .al zero []) ∨ ∃ zero n,x.op = .mks zero none n):=by
 unfold zwE at h;split at h
 all_goals first | exact ⟨rfl,.inl rfl,.inl ⟨_,rfl⟩⟩ | exact ⟨rfl,.inr ⟨_,rfl⟩,.inl ⟨_,rfl⟩⟩ | exact ⟨rfl,.inl rfl,.inr ⟨_,_,rfl⟩⟩ | cases h
theorem zEb {r r1 : R} {x : Oper} {zero : List C} (h : zwE x = true) (a : x.op = .al zero []) (c : step Cf r x = some r1) :
  r1 = (r.at (r.st ++ [.cells 0 zero.length [zero]])).put x.dst (.one (.ptr (r.st.length + 0) 0 0 0)):=by
 obtain ⟨b,_,_⟩:=zio h;obtain ⟨d,op,e⟩:=x;simp only at b a;subst b a;simp only [step,za8,Option.some.injEq] at c;rw [← c];simp [aal,tokens,zf8,R.allocs,R.at]
theorem zDl {r r1 : R} {x : Oper} {zero : List C} {n : X} (h : zwE x = true) (b : x.op = .mks zero none n) (a : step Cf r x = some r1) :
  ∃ kk m,r.get n = .one (.f (.lit (.int kk m))) ∧ 0 ≤ m ∧ m ≤ LIM ∧ r1 = (r.at (r.st ++ [.cells 0 zero.length (yl m.toNat zero)])).put x.dst (.one (.own r.st.length 0 0 m.toNat)):=by
 obtain ⟨c,_,_⟩:=zio h;obtain ⟨d,op,g⟩:=x;simp only at c b;subst c b;simp only [step,za8] at a;unfold zEg at a;split at a
 ·rename_i e
  split at a
  ·rename_i hm
   injection a with a;exact ⟨_,_,e,hm.1,hm.2,a.symm⟩
  ·cases a
 ·contradiction
 ·cases a
theorem zs5 (b : ∀ i x,xs[i]? = some x → step Cf (rr i) x = some (rr (i + 1))) {K : Nat} (e : K < xs.length) (he : eff xs K = false) : (rr (K + 1)).st = (rr K).st :=
 zov b (a:=K) 1 (by omega) fun k c d h => by
  have : k = K:=by omega
  subst this;unfold eff at he;simp [h] at he
theorem zBr (C : Chk2 P κ nt gops ps xs ms p) (N : ∀ i x,xs[i]? = some x → step Cf (rr i) x = some (rr (i + 1))) (y : (rr 0).env.length = κ.length) {D : Nat → Bool} {K : Nat} {B : Nat → Nat} {g : G} {w : World} {a : Act}
  (M : Mid2 P gops xs κ nt p rr g0 w0 σ0 D K B g w a) (J : K < p) (h : eff xs K = false ∨ D K = true) : ∃ g',Mid2 P gops xs κ nt p rr g0 w0 σ0 D (K + 1) B g' w a:=by
 have V : K < xs.length:=yj J C.w.le
 cases he : eff xs K with
 | false =>
   have n:=zs5 N V he
   have y : ∀ q,zdS rr xs p D (K + 1) q = zdS rr xs p D K q:=fun q => by
    unfold zdS;split
    ·rw [zeT he]
    ·rfl
   refine ⟨g,⟨by rw [n]; exact M.ext,by rw [n]; exact M.rel,M.size,M.df,fun i t ht => by rw [n,y]; exact M.slot i t ht,fun i t m H ht => by rw [n]; exact M.done i t m (by rw [← zeT he]; exact H) ht,J,fun i m u => ?_,
    fun i m L H => M.raw i m L (by rw [← zeT he]; exact H),fun i j m hj s b I r => M.inj i j m hj s (by rw [← zeT he]; exact b) I (by rw [← zeT he]; exact r)⟩⟩
   by_cases e : i = K
   ·subst e; rw [he] at u; cases u
   ·exact M.before i (by omega) u
 | true =>
   have L : D K = true:=by
    rcases h with h | h
    ·rw [he] at h; cases h
    ·exact h
   have O : vis xs D K K = false:=(by simp [vis,he]);obtain ⟨⟨o,x,sz,es,arr,ty,t,kd,ho,X,aD,E,hb,A,hz,S,Z,f⟩,aA,aE,Q⟩:=M.raw K J L O;obtain ⟨hg,hd,_⟩:=zio aD;obtain ⟨H1,R1,H,hp⟩:=zFN M.rel M.ext hz S Z hb aA aE Q;have n : (rr (K + 1)).st = (rr K).st ++ [.cells 0 sz es]:=(by rw [f,zeZ]; rfl);rw [← n] at H1 R1 H hp;have aG : K < gops.size:=(by rw [← C.len]; exact V);have l:=(C.pre_some J ho X).1;rw [E] at l;have d : vis xs D (K + 1) K = true:=(by simp [vis,L]);refine ⟨_,⟨H1,R1,M.size,M.df,fun q Y c => ?_,fun i Y m b c => ?_,J,fun i m u => ?_,fun i m s b => ?_,fun i j m hj s b I r W => ?_⟩⟩
   ·
    by_cases hw : wr xs p q = some K
    ·have aF:=zgw hw
     obtain ⟨_,x',z,aC⟩:=aF;rw [X] at z;injection z with z;subst z;unfold zdS;rw [hw];simp only [d,if_true]
     have U : x.dst = .slot q:=by
      exact zqT aC
     rw [U] at l;simp only [okD,beq_iff_eq] at l;rw [c] at l;injection l with l;subst l;rw [A]
     have hlen : q < (rr K).env.length:=by
      rw [(zgr C.w N K (yo J)).1,y];exact zb c
     have : (rr (K + 1)).env.getD q vun = kd.v (rr K).st.length:=by
      rw [f,U];simp [R.put,R.at,ya,hlen]
     rw [this];exact hp
    ·have : zdS rr xs p D (K + 1) q = zdS rr xs p D K q:=by
      unfold zdS;split
      ·rename_i k hk
       rw [zkk (fun e => by subst e; exact hw hk)]
      ·rfl
     rw [this];exact H _ _ (M.slot q Y c)
   ·by_cases e : i = K
    ·subst e
     have hl : lo gops xs i = za5 o.dst x.dst:=(by unfold lo; rw [ho,X]);rw [hl,E] at c;rcases hd with hd | ⟨q,hd⟩
     ·rw [hd] at c
      simp only [za5,Option.some.injEq] at c;subst c;rw [A]
      have : za6 rr i = kd.v (rr i).st.length:=by
       unfold za6;rw [f,hd];rfl
      rw [this];exact hp
     ·rw [hd] at c
      simp [za5] at c
    ·rw [zkk e] at b
     exact H _ _ (M.done i Y m b c)
   ·by_cases e : i = K
    ·subst e; exact L
    ·exact M.before i (by omega) u
   ·have e : i ≠ K:=fun e => by subst e; rw [d] at b; cases b
    rw [zkk e] at b;have aB : B i ≠ B K:=fun W => e (M.inj i K m J s b L O W);obtain ⟨k1,k2,k3,k4⟩:=M.raw i m s b;exact ⟨k1,(zaH g.ow _ aB).trans k2,k3,k4⟩
   ·have e1 : i ≠ K:=fun e => by subst e; rw [d] at b; cases b
    have e2 : j ≠ K:=fun e => by subst e; rw [d] at r; cases r
    rw [zkk e1] at b;rw [zkk e2] at r;exact M.inj i j m hj s b I r W
def zzj (xs : List Oper) (p : Nat) (D : Nat → Bool) (K : Nat) : Prop:=K = p ∨ (eff xs K = true ∧ D K = false)
theorem zz9 (C : Chk2 P κ nt gops ps xs ms p) (c : ∀ i x,xs[i]? = some x → step Cf (rr i) x = some (rr (i + 1))) (b : (rr 0).env.length = κ.length) {D : Nat → Bool} {B : Nat → Nat} {w : World} {a : Act} : ∀ (n K : Nat) (g : G),p - K = n →
  Mid2 P gops xs κ nt p rr g0 w0 σ0 D K B g w a → ∃ K' g',Mid2 P gops xs κ nt p rr g0 w0 σ0 D K' B g' w a ∧ zzj xs p D K'
 | 0,K,g,hn,M => ⟨K,g,M,.inl (by have:=M.kp; omega)⟩
 | n + 1,K,g,hn,M => by
   by_cases h : eff xs K = false ∨ D K = true
   ·obtain ⟨g',d⟩:=zBr C c b M (by omega) h
    exact zz9 C c b n (K + 1) g' (by omega) d
   ·simp only [not_or,Bool.not_eq_false,Bool.not_eq_true] at h
    exact ⟨K,g,M,.inr h⟩
theorem zCq {D : Nat → Bool} {K j : Nat} (a : zzj xs p D K) (h : D j = true) (b : j < p) (he : eff xs j = true) : j ≠ K:=fun e => by
 subst e;rcases a with a | ⟨_,a⟩
 ·omega
 ·rw [h] at a; cases a
theorem Raw.ext {g g' : G} {w w' : World} {a m : Act} {σ σ' : zd} {i b : Nat} (h : Raw P gops xs rr w0 g w a i b) (H : Ext g w σ g' w' σ') (s : ∀ t,(∃ o,gops[i]? = some o ∧ o.dst = some t) → m.tmps.getD t undef = a.tmps.getD t undef) : Raw P gops xs rr w0 g' w' m i b:=by
 obtain ⟨⟨o,x,sz,es,arr,ty,t,kd,l,p,r,n,j,u,k⟩,f,d,e⟩:=h;have c : b < w.heap.size:=(yc.1 j).1;exact ⟨⟨o,x,sz,es,arr,ty,t,kd,l,p,r,n,(H.frame b c f).trans j,(s t ⟨o,l,n⟩).trans u,k⟩,(H.ow b c).trans f,fun o q => d o (H.new b o q c f),e⟩
def zm3 (gops : Array Go.Oper) (i : Nat) : Option Tmp:=(gops[i]?).bind (·.dst)
theorem zt4 (C : Chk2 P κ nt gops ps xs ms p) (u : κ.Nodup) {i j : Nat} (o : i < p) (r : j < p) (n : i ≠ j) {t : Tmp} (m : zm3 gops i = some t) (l : zm3 gops j = some t) : False:=by
 have e : i < gops.size:=yj o C.p_le;have c : j < gops.size:=yj r C.p_le;have g : gops[i]? = some gops[i]:=yh e;have k : gops[j]? = some gops[j]:=yh c;have d : xs[i]? = some (xs[i]'(by rw [C.len]; exact e)):=yi (by rw [C.len]; exact e);have f : xs[j]? = some (xs[j]'(by rw [C.len]; exact c)):=yi (by rw [C.len]; exact c);have di:=(C.pre_some o g d).1;have dj:=(C.pre_some r k f).1;unfold zm3 at m l;rw [g] at m;rw [k] at l;simp only [Option.bind_some] at m l;rw [m] at di;rw [l] at dj
 cases b : (xs[i]'(by rw [C.len]; exact e)).dst with
 | no => rw [b] at di; simp [okD] at di
 | loc =>
   rw [b] at di
   cases a : (xs[j]'(by rw [C.len]; exact c)).dst with
   | no => rw [a] at dj; simp [okD] at dj
   | loc =>
     have e1 : lo gops xs i = some t:=(by unfold lo; rw [g,d]; simp [za5,m,b]);have e2 : lo gops xs j = some t:=(by unfold lo; rw [k,f]; simp [za5,l,a]);exact n (C.plan.apart i j t o r e1 e2)
   | slot q =>
     rw [a] at dj;simp only [okD,beq_iff_eq] at dj;simp only [okD,yb,yk] at di;have : t ∈ κ:=ye dj;simp [this] at di
 | slot q =>
   rw [b] at di;simp only [okD,beq_iff_eq] at di
   cases a : (xs[j]'(by rw [C.len]; exact c)).dst with
   | no => rw [a] at dj; simp [okD] at dj
   | loc =>
     rw [a] at dj;simp only [okD,yb,yk] at dj;have : t ∈ κ:=ye di;simp [this] at dj
   | slot q' =>
     rw [a] at dj;simp only [okD,beq_iff_eq] at dj;have s : q = q':=zsQ u di dj;subst s;rcases Nat.lt_or_gt_of_ne n with h | h
     ·exact (C.pair h r d f).2.1 q (zgR b) (zgR a)
     ·exact (C.pair h o f d).2.1 q (zgR a) (zgR b)
theorem zms {a : Act} {d : Option Tmp} {u : Value} {t : Tmp} (h : d ≠ some t) : (a.put d u).tmps.getD t undef = a.tmps.getD t undef:=by
 cases d with
 | none => rfl
 | some t' =>
   simp only [Act.put,zhn];rw [if_neg (fun e => h (by rw [e.1]))]
end
section
variable {P : Program} {κ : List Tmp} {nt : Nat} {gops : Array Go.Oper} {ps : List (Nat × Nat)} {xs : List Oper} {ms : List Nat} {p b l : Nat} {Cf : zae} {rr : Nat → R} {g0 : G} {w0 : World} {σ0 : zd}
theorem zCS (C : Chk2 P κ nt gops ps xs ms p) {D : Nat → Bool} {K j i : Nat} (a : zhJ gops D) (r : ∀ i ∈ zaw gops j,D i = true) (l : zzj xs p D K) (f : i < j) (s : j < p) {x y : Oper} (o : xs[i]? = some x) (t : xs[j]? = some y) (e : D i = true)
  (hu : zwE x = true → zsZ xs gops j i y = true) : vis xs D K i = true:=by
 cases he : eff xs i with
 | false => simp [vis,e,he]
 | true =>
   have m:=zCq l e (by omega) he
   have g : i < K:=by
    rcases Nat.lt_trichotomy i K with h | h | h
    ·exact h
    ·exact absurd h m
    ·rcases l with l | ⟨d,b⟩
     ·omega
     ·have k : K < xs.length:=by have:=C.w.le; omega
      have n : xs[K]? = some xs[K]:=yi k;rcases (C.pair h (by omega) n o).2.2.1 d he with c | q
      ·have:=(C.pair f s o t).2.2.2 c (hu c) K h d
       have:=za2 a this r;rw [b] at this; cases this
      ·have:=za2 a q (a i e)
       rw [b] at this; cases this
   simp [vis,e,g]
theorem zqU (C : Chk2 P κ nt gops ps xs ms p) (n : ∀ i x,xs[i]? = some x → step Cf (rr i) x = some (rr (i + 1))) (e : (rr 0).env.length = κ.length) (m : κ.Nodup) (k : ∀ t ∈ κ,t < nt) {D : Nat → Bool} {K j : Nat} {B : Nat → Nat} {g : G} {w : World} {a : Act}
  (s : j ≤ p) (f : Nat → Option Tmp) (o : ∀ i t,i < j → f i = some t → vis xs D K i = true ∧ lo gops xs i = some t) (M : Mid2 P gops xs κ nt p rr g0 w0 σ0 D K B g w a) :
  Fr κ ((yf j).reverse.map f) nt g w ⟨(yf j).reverse.map (za6 rr),zoq rr xs p D K,(rr K).st,b,l⟩ a:=by
 refine ⟨M.size,by simp [zoq,e],fun i t r => by simp only [zmi C.w n]; exact M.slot i t r,fun d t hd _ => ?_,fun d t hd => ?_,m,k,M.df⟩
 ·have c : d < j:=by have:=zb hd; simpa using this
  rw [zjC f c] at hd;injection hd with hd;obtain ⟨q,h⟩:=o _ t (by omega) hd;simp only [ya,zjC (za6 rr) c,Option.getD_some];exact M.done _ t (by omega) q h
 ·have c : d < j:=by have:=zb hd; simpa using this
  rw [zjC f c] at hd;injection hd with hd;obtain ⟨_,h⟩:=o _ t (by omega) hd;exact zp0 C.plan (by omega : j - 1 - d < p) h
theorem zpp {D : Nat → Bool} {K a j i : Nat} (h : (a = K ∧ eff xs j = false) ∨ (a = K + 1 ∧ j = K)) : vis xs (zba D j) a i = if i = j then true else vis xs D K i:=by
 by_cases e : i = j
 ·subst e
  rw [if_pos rfl];rcases h with ⟨_,h⟩ | ⟨rfl,rfl⟩
  ·simp [vis,zba,h]
  ·simp [vis,zba]
 ·rw [if_neg e]
  have : zba D j i = D i:=by simp [zba,e]
  unfold vis;rw [this];rcases h with ⟨rfl,_⟩ | ⟨rfl,rfl⟩
  ·rfl
  ·have : decide (i < j + 1) = decide (i < j):=by
    simp only [decide_eq_decide];omega
   rw [this]
theorem ztn (C : Chk2 P κ nt gops ps xs ms p) (N : ∀ i x,xs[i]? = some x → step Cf (rr i) x = some (rr (i + 1))) (J : (rr 0).env.length = κ.length) (aB : κ.Nodup) {D : Nat → Bool} {K n j : Nat} {B : Nat → Nat} {g g' : G} {w w' : World} {a : Act} {u : Value} {o : Go.Oper} {x : Oper} {v : V} {σ1 : zd}
  (M : Mid2 P gops xs κ nt p rr g0 w0 σ0 D K B g w a) (I : (n = K ∧ eff xs j = false) ∨ (n = K + 1 ∧ j = K)) (U : j < p) (aF : D j = false) (ho : gops[j]? = some o) (S : xs[j]? = some x) (hv : rr (j + 1) = ((rr j).at σ1).put x.dst v)
  (H : Ext g w (rr K).st g' w' (rr n).st) (R1 : Rel g' w' (rr n).st)
  (F : Fr κ (za5 o.dst x.dst :: zft gops xs j) nt g' w' ((⟨(yf j).reverse.map (za6 rr),zoq rr xs p D K,(rr n).st,b,l⟩ : R).put x.dst v) (a.put o.dst u)) :
  Mid2 P gops xs κ nt p rr g0 w0 σ0 (zba D j) n B g' w' (a.put o.dst u):=by
 have L : x.dst = .loc → za6 rr j = v:=fun h => by unfold za6; rw [hv,h]; rfl
 have aG:=(C.pre_some U ho S).1
 have aA : n ≤ p:=by
  rcases I with ⟨rfl,_⟩ | ⟨rfl,rfl⟩
  ·exact M.kp
  ·omega
 have z : ((⟨(yf j).reverse.map (za6 rr),zoq rr xs p D K,(rr n).st,b,l⟩ : R).put x.dst v).st = (rr n).st:=zeZ _ _ _;have hold : ∀ i,i ≠ j → i < p → vis xs (zba D j) n i = vis xs D K i:=fun i f _ => by rw [zpp I,if_neg f]
 have A : ∀ i,i ≠ j → i < p → ∀ t,zm3 gops i = some t → (a.put o.dst u).tmps.getD t undef = a.tmps.getD t undef:=fun i f aC t d => zms fun e =>
  zt4 C aB aC U f d (by unfold zm3; rw [ho]; exact e)
 refine ⟨M.ext.trans H,R1,F.size,F.df,fun q t d => ?_,fun i t f c d => ?_,aA,fun i f Q => ?_,fun i f E c => ?_,fun i i' f O E c r m hB => ?_⟩
 ·have X:=F.env q t d
  rw [z] at X
  have e : ((⟨(yf j).reverse.map (za6 rr),zoq rr xs p D K,(rr n).st,b,l⟩ : R).put x.dst v).env.getD q vun = zdS rr xs p (zba D j) n q:=by
   by_cases hw : writes x = some q
   ·have hd:=zqT hw
    rw [hd];have hq : q < (rr 0).env.length:=(by rw [J]; exact zb d);have Y : q < (rr j).env.length:=(by rw [(zgr C.w N j (yo U)).1]; exact hq);have aD:=zA1 C.w U S hw;unfold zdS;rw [aD];simp only [zpp I,if_true];rw [hv,hd];simp [R.put,R.at,ya,zoq,hq,Y]
   ·have e1 : ((⟨(yf j).reverse.map (za6 rr),zoq rr xs p D K,(rr n).st,b,l⟩ : R).put x.dst v).env.getD q vun = (zoq rr xs p D K).getD q vun:=by
     cases hd : x.dst with
     | no => rfl
     | loc => rfl
     | slot q' =>
       have s : q' ≠ q:=fun e => hw (by rw [← e]; exact zgR hd);simp only [R.put,ya,List.getElem?_set_ne s]
    rw [e1,zmi C.w N];unfold zdS;split
    ·rename_i k hk
     obtain ⟨k1,x',W,k3⟩:=zgw hk
     have s : k ≠ j:=fun e => by subst e; rw [S] at W; injection W with W; subst W; exact hw k3
     have : zba D j k = D k:=(by simp [zba,s]);rw [hold k s k1,this]
    ·rfl
  rw [e] at X;exact X
 ·by_cases e : i = j
  ·subst e
   have y : za5 o.dst x.dst = some t:=by
    unfold lo at d;rw [ho,S] at d;exact d
   have hd : x.dst = .loc:=by
    unfold za5 at y;split at y
    ·rename_i h; exact h
    ·cases y
   have Z:=F.lc 0 t (by simp [y]) (by simp);rw [z] at Z;rw [L hd];rw [hd] at Z;simpa [R.put] using Z
  ·rw [hold i e f] at c
   have:=H.zf _ _ (M.done i t f c d)
   have aE : zm3 gops i = some t:=by
    unfold lo at d;unfold zm3;split at d
    ·rename_i o' x' h1 h2
     rw [h1];unfold za5 at d;split at d
     ·rename_i h3 _; injection d with d; subst d; exact h3
     ·cases d
    ·cases d
   rw [A i e f t aE];exact this
 ·by_cases e : i = j
  ·subst e; simp [zba]
  ·have : zba D j i = D i:=by simp [zba,e]
   rw [this];rcases I with ⟨rfl,_⟩ | ⟨rfl,rfl⟩
   ·exact M.before i f Q
   ·exact M.before i (by omega) Q
 ·have e : i ≠ j:=fun e => by subst e; rw [zpp I,if_pos rfl] at c; cases c
  rw [hold i e f] at c;have r : D i = true:=by simpa [zba,e] using E
  exact (M.raw i f r c).ext H fun t ⟨o',h1,h2⟩ => A i e f t (by unfold zm3; rw [h1]; exact h2)
 ·have e : i ≠ j:=fun e => by subst e; rw [zpp I,if_pos rfl] at c; cases c
  have e' : i' ≠ j:=fun e => by subst e; rw [zpp I,if_pos rfl] at m; cases m
  rw [hold i e f] at c;rw [hold i' e' O] at m;exact M.inj i i' f O (by simpa [zba,e] using E) c (by simpa [zba,e'] using r) m hB
theorem zs7 (C : Chk2 P κ nt gops ps xs ms p) (Q : κ.Nodup) (aF : ∀ t ∈ κ,t < nt) {D : Nat → Bool} {K j : Nat} {B : Nat → Nat} {g : G} {w : World} {a : Act} {o : Go.Oper} {x : Oper}
  (M : Mid2 P gops xs κ nt p rr g0 w0 σ0 D K B g w a) (hj : j < p) (aJ : K < j) (he : eff xs j = true) (W : zwE x = true) (ho : gops[j]? = some o) (hx : xs[j]? = some x) {t : Tmp} (f : o.dst = some t)
  {sz : Nat} {es : List (List Go.A.C)} {arr : Array Value} {ty : TypeId} {kd : Mk} (aC : arr.size = es.length * sz) (X : ∀ g w σ,zca g w σ arr sz es) (aB : kd.ok sz es) (N : rr (j + 1) = ((rr j).at ((rr j).st ++ [.cells 0 sz es])).put x.dst (kd.v (rr j).st.length)) :
  ∃ g' B',Mid2 P gops xs κ nt p rr g0 w0 σ0 (zba D j) K B' g' (w.alloc (.cells arr ty)) (a.put o.dst (kd.u w.heap.size)):=by
 obtain ⟨R,E,_⟩:=zio W;obtain ⟨k,_,hc,_⟩:=C.pre_some hj ho hx
 have L : t < nt ∧ (t ∈ κ → ∃ q,x.dst = .slot q ∧ κ[q]? = some t):=by
  rw [f] at k;rcases E with E | ⟨q,E⟩
  ·rw [E] at k
   simp only [okD,yb,yk,decide_eq_true_eq] at k;exact ⟨k.2,fun h => absurd h (by simpa using k.1)⟩
  ·rw [E] at k
   simp only [okD,beq_iff_eq] at k;exact ⟨aF t (ye k),fun _ => ⟨q,E,k⟩⟩
 let ob : Obj:=.cells arr ty
 let g' : G:={ g with ow:=zxW g.ow w.heap.size .no }
 have H : Ext g w (rr K).st g' (w.alloc ob) (rr K).st:=by
  have:=Ext.alloc M.rel ob g' (fun _ _ => rfl) (fun _ _ _ _ => rfl) (fun b hb => zaH g.ow _ (by omega)) (fun _ _ _ => Iff.rfl) [];simpa using this
 have R1 : Rel g' (w.alloc ob) (rr K).st:=⟨fun b i h => by rw [size_alloc]; have:=M.rel.nb b i h; omega,fun id S h => zcS H rfl (fun _ => rfl) (fun b hb _ => ⟨heap_alloc_old w ob hb,zaH g.ow _ (by omega),fun _ h => h⟩) (M.rel.ob id S h)⟩;refine ⟨g',zxW B j w.heap.size,?_⟩;have V : vis xs (zba D j) K j = false:=by simp [vis,zba,he]; omega
 have hold : ∀ i,i ≠ j → vis xs (zba D j) K i = vis xs D K i:=fun i l => by simp [vis,zba,l]
 have J : ∀ i,i ≠ j → i < p → ∀ r,zm3 gops i = some r → ∀ u,(a.put o.dst u).tmps.getD r undef = a.tmps.getD r undef:=fun i l aG r ht u => zms fun e =>
  zt4 C Q aG hj l ht (by unfold zm3; rw [ho]; exact e)
 have s : ∀ i,i < p → D i = true → vis xs D K i = false → B i < w.heap.size:=fun i l y d => by
  obtain ⟨⟨_,_,_,_,_,_,_,_,_,_,_,_,h7,_⟩,_⟩:=M.raw i l y d;exact (yc.1 h7).1
 refine ⟨M.ext.trans H,R1,by simp [Act.put,f,M.size],by simp [Act.put,f,M.df],fun q r c => ?_,fun i r l d c => ?_,M.kp,fun i l aD => ?_,fun i l y d => ?_,fun i O l Y y d n m Z => ?_⟩
 ·by_cases hw : writes x = some q
  ·have aE:=zA1 C.w hj hx hw
   unfold zdS;rw [aE];simp only [V,Bool.false_eq_true,if_false];have : zba D j j = true:=(by simp [zba]);rw [this];simp only [if_true,vun,zf,zy]
  ·have e1 : zdS rr xs p (zba D j) K q = zdS rr xs p D K q:=by
    unfold zdS;split
    ·rename_i k' hk
     obtain ⟨_,x',k2,k3⟩:=zgw hk
     have U : k' ≠ j:=fun e => by subst e; rw [hx] at k2; injection k2 with k2; subst k2; exact hw k3
     have : zba D j k' = D k':=(by simp [zba,U]);rw [hold k' U,this]
    ·rfl
   rw [e1]
   have e2 : o.dst ≠ some r:=fun e => by
    rw [f] at e;injection e with e;subst e;obtain ⟨q',aI,aA⟩:=L.2 (ye c);have:=zsQ Q aA c;subst this;exact hw (zgR aI)
   rw [zms e2];exact H.zf _ _ (M.slot q r c)
 ·have e : i ≠ j:=fun e => by subst e; rw [V] at d; cases d
  rw [hold i e] at d
  have aH : zm3 gops i = some r:=by
   unfold lo at c;unfold zm3;split at c
   ·rename_i S x' R E
    rw [R];unfold za5 at c;split at c
    ·rename_i h3 _; injection c with c; subst c; exact h3
    ·cases c
   ·cases c
  rw [J i e l r aH];exact H.zf _ _ (M.done i r l d c)
 ·have : i ≠ j:=by omega
  have h0 : zba D j i = D i:=by simp [zba,this]
  rw [h0];exact M.before i l aD
 ·by_cases e : i = j
  ·subst e
   rw [zgX];refine ⟨⟨o,x,sz,es,arr,ty,t,kd,ho,hx,W,f,zbd w ob,?_,aC,X,aB,N⟩,zgX g.ow _ _,fun S hN => ?_,M.ext.size⟩
   ·rw [f]
    simp [Act.put,M.size,L.1]
   ·have:=M.rel.nb _ S hN
    omega
  ·rw [hold i e] at d
   have n : D i = true:=(by simpa [zba,e] using y);rw [zaH B _ e];exact (M.raw i l n d).ext H fun r ⟨S,R,E⟩ => J i e l r (by unfold zm3; rw [R]; exact E) _
 ·by_cases e : i = j
  ·by_cases I : O = j
   ·rw [e,I]
   ·subst e
    rw [hold O I] at m;have z : D O = true:=(by simpa [zba,I] using n);have:=s O Y z m;rw [zgX,zaH B _ I] at Z;omega
  ·rw [hold i e] at d
   have z : D i = true:=(by simpa [zba,e] using y);have R:=s i l z d
   by_cases I : O = j
   ·subst I
    rw [zgX,zaH B _ e] at Z;omega
   ·rw [hold O I] at m
    rw [zaH B _ e,zaH B _ I] at Z;exact M.inj i O l Y z d (by simpa [zba,I] using n) m Z
theorem zCt (C : Chk2 P κ nt gops ps xs ms p) (O : ∀ i x,xs[i]? = some x → step Cf (rr i) x = some (rr (i + 1))) (L : κ.Nodup) (Y : ∀ t ∈ κ,t < nt) {D : Nat → Bool} {K j : Nat} {B : Nat → Nat} {g : G} {w : World} {a : Act} {o : Go.Oper} {x : Oper} {next : Act → World → Prop} {Q : Exit → Act → World → Prop} {r' : R}
  (M : Mid2 P gops xs κ nt p rr g0 w0 σ0 D K B g w a) (hj : j < p) (S : K < j) (he : eff xs j = true) (f : zwE x = true) (ho : gops[j]? = some o) (J : xs[j]? = some x)
  (F : Fr κ (zft gops xs j) nt g w r' a) (N : ∀ y ∈ zeQ x,r'.get y = (rr j).get y)
  (k : ∀ g' w' u B',Mid2 P gops xs κ nt p rr g0 w0 σ0 (zba D j) K B' g' w' (a.put o.dst u) → next (a.put o.dst u) w') : o.wp P a w next Q:=by
 obtain ⟨h1,Z,b⟩:=zio f;obtain ⟨E,_,d,_⟩:=C.pre_some hj ho J
 obtain ⟨t,v⟩ : ∃ t,o.dst = some t:=by
  cases hd : o.dst with
  | some t => exact ⟨t,rfl⟩
  | none =>
    rw [hd] at E;rcases Z with Z | ⟨q,Z⟩ <;> rw [Z] at E <;> simp [okD] at E
 rcases b with ⟨zero,b⟩ | ⟨zero,n,b⟩
 ·have hs:=zEb f b (O j x J)
  rw [b] at d;simp only [zmm] at d;split at d
  ·rename_i ty aB
   obtain ⟨V,hz,r,_⟩:=zlP d;obtain ⟨i,z,H,k2,k3⟩:=zda hz;have aD : z.cells = V.toArray:=(by rw [← k3]);obtain ⟨s,q2⟩:=zav (g:=g) (w:=w) (σ:=[]) r;have hl : V.length = zero.length:=zI s
   obtain ⟨g',B',M'⟩:=zs7 (sz:=zero.length) (es:=[zero]) (arr:=V.toArray) (ty:=ty) (kd:=.ptr) C L Y M hj S he f ho J v (by simp [hl]) (fun g w σ => by
    obtain ⟨h,A⟩:=zav (g:=g) (w:=w) (σ:=σ) r
    exact zmY h A) rfl hs
   refine zmc (u:=.pointer (some ⟨w.heap.size,0,none⟩)) (w':=w.alloc (.cells V.toArray ty)) ?_ (k g' _ _ B' M');unfold execOp;simp only [aB];simp [Instr.alloc,zdh (w:=w) H k2,newVar,newRow,aD]
  ·cases d
 ·obtain ⟨kk,m,hv,aE,aF,hs⟩:=zDl f b (O j x J)
  have aC:=N n (by rw [show zeQ x = opX x.op ++ _ from rfl,b]; simp [opX]);rw [b] at d;simp only [zmm] at d;split at d
  ·rename_i t' l c aA
   simp only [yb,beq_iff_eq] at d;obtain ⟨⟨rfl,s⟩,q2⟩:=d;split at s
   ·rename_i e ht
    split at s
    ·rename_i i hi
     simp only [yb,decide_eq_true_eq] at s;obtain ⟨⟨h3,h4⟩,h5⟩:=s;split at h5
     ·rename_i V hz
      simp only [yb,beq_iff_eq] at h5;obtain ⟨⟨h6,h7⟩,_⟩:=h5;obtain ⟨i',z,H,k2,k3⟩:=zda hz;rw [hi] at H;injection H with H;subst H;subst k3;have r : z.cells.size = i.size:=by simpa using h6
      have U : zero.length = i.size:=by
       obtain ⟨h,_⟩:=zav (g:=g) (w:=w) (σ:=[]) h7;rw [← zI h];exact h6
      have I:=F.get q2;rw [aC,hv] at I;obtain ⟨ex,_⟩:=zM I
      have X : (execOp a.eval o).run P w = .ok (.value (.slice (some ⟨w.heap.size,0,none⟩) m.toNat m.toNat)) (w.alloc (.cells (madeCells z.cells (m.toNat * i.size)).toList.toArray e)):=by
       unfold execOp;simp only [aA,ex,Sem.run_bind,zoL (P:=P) (w:=w) ht hi k2 aE aF h3,Result.andThen_ok,Sem.run_pure]
      have W : ∀ g w σ,zca g w σ (madeCells z.cells (m.toNat * i.size)).toList.toArray zero.length (yl m.toNat zero):=fun g w σ => by
       obtain ⟨h,A⟩:=zav (g:=g) (w:=w) (σ:=σ) h7;have:=zka (g:=g) (w:=w) (σ:=σ) (es:=yl m.toNat zero) r h4 (fun e he => by rw [(List.mem_replicate.1 he).2]; exact h) A;rw [List.length_replicate] at this;rw [Array.toArray_toList,U];exact this
      obtain ⟨g',B',M'⟩:=zs7 (sz:=zero.length) (es:=yl m.toNat zero) (arr:=(madeCells z.cells (m.toNat * i.size)).toList.toArray) (ty:=e) (kd:=.own m.toNat) C L Y M hj S he f ho J v (by simp [size_madeCells,U]) W (by simp [Mk.ok]) hs;exact zmc X (k g' _ _ B' M')
     ·cases h5
    ·cases s
   ·cases s
  ·cases d
end
end Go.A

/- A part of the proof of AffineFinds. Conditions: none. -/
import Derived.Test.YtmkncmffaaninaaGreatXAK
set_option linter.all false
open List renaming getD_eq_getElem?_getD → ya,getElem?_append_left → yd,mem_of_getElem? → ye,range → yf,all_eq_true → yg,getElem?_eq_getElem → yi,replicate → yl
open Bool renaming and_eq_true → yb,not_eq_true' → yk,or_eq_true → yn
open Array renaming getElem?_eq_some_iff → yc,getElem?_eq_getElem → yh
open Nat renaming lt_of_lt_of_le → yj,le_refl → ym,le_of_lt → yo
namespace Go.A
def zyS : Oper → Bool
 | ⟨.loc,.al _ [],none⟩ => true
 | ⟨.slot _,.al _ [],none⟩ => true
 | ⟨.loc,.mks _ none _,none⟩ => true
 | _ => false
def eff (xs : List Oper) (i : Nat) : Bool:=decide (3 ≤ cls xs i)
def zHq (ms : List Nat) (xs : List Oper) (p j K : Nat) : Bool:=!(decide (K < p) && bit ms j K) && (yf K).all fun e => !(eff xs e && bit ms e j)
def harmless (xs : List Oper) (p c j K : Nat) : Bool:=(yf p).all fun i => !(eff xs i) || !(decide (min j K ≤ i) && decide (i < max j K)) || cls xs i == 4 || (c == 1 && decide (cls xs i ≤ 4))
def zzc : D → Bool
 | .loc => true
 | _ => false
def zJx : Op → Bool
 | .call _ _ _ => false
 | _ => true
def zv9 (ms : List Nat) (xs : List Oper) (ps : List (Nat × Nat)) (p j : Nat) (x : Oper) : Bool :=
 zbc x.op == 0 || decide (3 ≤ zbc x.op) || (yf (p + 1)).all fun K => !(K == p || eff xs K) || !(zHq ms xs p j K) || harmless xs p (zbc x.op) j K || (ps.contains (j,K) && zzc x.dst && zJx x.op)
def zuk (xs : List Oper) (gops : Array Go.Oper) (j i : Nat) (y : Oper) : Bool:=(zaO gops j).contains i || (match (xs[i]?).bind writes with
 | some q => zf2 q y
 | none => false)
def ztE (ms : List Nat) (gops : Array Go.Oper) (xs : List Oper) (i j : Nat) : Bool:=match xs[i]?,xs[j]? with
 | some x,some y => (zhc x y || bit ms j i) && (match writes x,writes y with
   | some q,some q' => q != q'
   | _,_ => true) && (!(eff xs i && eff xs j) || zyS y || bit ms j i) && (!(zyS x && zuk xs gops j i y) || (yf i).all fun e => !(eff xs e) || bit ms j e)
 | _,_ => false
def zv8 (P : Program) (κ : List Tmp) (nt : Nat) (gops : Array Go.Oper) (ps : List (Nat × Nat)) (xs : List Oper) (ms : List Nat) (p j : Nat) : Bool:=match gops[j]?,xs[j]? with
 | some o,some x => okD κ nt o.dst x.dst && zgr κ (zfX gops xs j) gops o.guard x.guard && znN P κ (zfX gops xs j) o x.dst x.op && (zfa x).all (zzI (zfX gops xs j)) && (yf j).all (fun i => ztE ms gops xs i j) && zv9 ms xs ps p j x
 | _,_ => false
def zpC (P : Program) : List Tmp → Nat → Array Go.Oper → List (Nat × Nat) → List Oper → Bool:=fun κ nt gops ps xs =>
 let ms:=znH gops.toList []
 let p:=zpA ms gops.size
 zjH gops ms && xs.length == gops.size && decide (p ≤ gops.size) && zj9 (zG8 gops xs p) && (yf p).all (zv8 P κ nt gops ps xs ms p) && (yf gops.size).all fun j => decide (j < p) || zjE P κ nt gops xs ms j
structure Chk2 (P : Program) (κ : List Tmp) (nt : Nat) (gops : Array Go.Oper) (ps : List (Nat × Nat)) (xs : List Oper) (ms : List Nat) (p : Nat) : Prop where
 masks : zjH gops ms = true
 len : xs.length = gops.size
 p_le : p ≤ gops.size
 dup : zj9 (zG8 gops xs p) = true
 pre : ∀ j,j < p → zv8 P κ nt gops ps xs ms p j = true
 tail : ∀ j,p ≤ j → j < gops.size → zjE P κ nt gops xs ms j = true
section
variable {P : Program} {κ : List Tmp} {nt : Nat} {gops : Array Go.Oper} {ps : List (Nat × Nat)} {xs : List Oper} {ms : List Nat} {p b l : Nat} {Cf : zaq} {rr : Nat → R}
theorem zF0 (h : zpC P κ nt gops ps xs = true) : ∃ ms p,Chk2 P κ nt gops ps xs ms p:=by
 unfold zpC at h;simp only [yb,beq_iff_eq,decide_eq_true_eq] at h;obtain ⟨⟨⟨⟨⟨f,i⟩,d⟩,g⟩,e⟩,c⟩:=h;refine ⟨_,_,f,i,d,g,fun j b => yg.1 e j (by simpa using b),fun j b a => ?_⟩;have:=yg.1 c j (by simpa using a);simp only [yn,decide_eq_true_eq] at this;rcases this with h | h
 ·omega
 ·exact h
theorem Chk2.pre_some (C : Chk2 P κ nt gops ps xs ms p) {j : Nat} (g : j < p) {o : Go.Oper} {x : Oper} (l : gops[j]? = some o) (e : xs[j]? = some x) :
  okD κ nt o.dst x.dst = true ∧ zgr κ (zfX gops xs j) gops o.guard x.guard = true ∧ znN P κ (zfX gops xs j) o x.dst x.op = true ∧ (∀ y ∈ zfa x,zzI (zfX gops xs j) y = true) ∧ (∀ i,i < j → ztE ms gops xs i j = true) ∧ zv9 ms xs ps p j x = true:=by
 have h:=C.pre j g;unfold zv8 at h;rw [l,e] at h;simp only [yb] at h;obtain ⟨⟨⟨⟨⟨m,c⟩,d⟩,n⟩,k⟩,b⟩:=h;exact ⟨m,c,d,fun y f => yg.1 n y f,fun i a => yg.1 k i (by simpa using a),b⟩
theorem Chk2.plan (C : Chk2 P κ nt gops ps xs ms p) : Plan P κ nt gops xs p where
 len:=C.len
 p_le:=C.p_le
 back:=fun j o b i c => by
  have a : j < gops.size:=(yc.1 b).1;exact (zlw C.masks a).2 i (by unfold zaO; rw [b]; exact c)
 pre:=fun j o x a b f => (C.pre_some a b f).1
 apart:=fun i j t c a g e => zlC C.dup List.nodup_range i (by simpa using c) j (by simpa using a) t g e
 tail:=fun j o x a b f => by
  have d : j < gops.size:=(yc.1 b).1;have h:=C.tail j a d;unfold zjE at h;rw [b,f] at h;simp only [yb] at h;obtain ⟨⟨⟨g,e⟩,k⟩,l⟩:=h;exact ⟨g,e,k,fun i c => zfo C.masks j d (yg.1 l i (by simpa using c))⟩
theorem Chk2.pair (C : Chk2 P κ nt gops ps xs ms p) {i j : Nat} (l : i < j) (n : j < p) {x y : Oper} (t : xs[i]? = some x) (m : xs[j]? = some y) :
  (zhc x y = true ∨ Reach gops j i) ∧ (∀ q,writes x = some q → writes y ≠ some q) ∧ (eff xs i = true → eff xs j = true → zyS y = true ∨ Reach gops j i) ∧
  (zyS x = true → zuk xs gops j i y = true → ∀ e,e < i → eff xs e = true → Reach gops j e):=by
 have a : j < gops.size:=yj n C.p_le;have h:=(C.pre_some n (yh a) m).2.2.2.2.1 i l;unfold ztE at h;rw [t,m] at h;simp only [yb,yn] at h;obtain ⟨⟨⟨u,o⟩,b⟩,c⟩:=h;refine ⟨u.imp id fun h => zfo C.masks j a h,fun q s f => ?_,fun g k => ?_,fun r hu e he d => ?_⟩
 ·rw [s,f] at o
  simp at o
 ·rcases b with (b | b) | b
  ·simp [g,k] at b
  ·exact .inl b
  ·exact .inr (zfo C.masks j a b)
 ·rcases c with c | c
  ·simp [r,hu] at c
  ·have:=yg.1 c e (by simpa using he)
   simp only [yn,yk] at this;rcases this with h | h
   ·rw [d] at h; cases h
   ·exact zfo C.masks j a h
theorem Chk2.w (C : Chk2 P κ nt gops ps xs ms p) : ChkW xs p:=⟨by rw [C.len]; exact C.p_le,fun a d _ _ b c => (C.pair a d b c).2.1⟩
def vis (xs : List Oper) (D : Nat → Bool) (K k : Nat) : Bool:=D k && (!(eff xs k) || decide (k < K))
def zel (rr : Nat → R) (xs : List Oper) (p : Nat) (D : Nat → Bool) (K q : Nat) : V:=match wr xs p q with
 | some k => if vis xs D K k then (rr (k + 1)).env.getD q vun else if D k then vun else (rr 0).env.getD q vun
 | none => (rr 0).env.getD q vun
def zpz (rr : Nat → R) (xs : List Oper) (p : Nat) (D : Nat → Bool) (K : Nat) : List V:=(yf (rr 0).env.length).map (zel rr xs p D K)
theorem znF {D : Nat → Bool} {K q : Nat} (C : ChkW xs p) (b : ∀ i x,xs[i]? = some x → step Cf (rr i) x = some (rr (i + 1))) : (zpz rr xs p D K).getD q vun = zel rr xs p D K q:=by
 unfold zpz
 by_cases a : q < (rr 0).env.length
 ·simp [ya,a]
 ·have e0 : (rr 0).env.getD q vun = vun:=by simp [ya,a]
  have e1 : ((yf (rr 0).env.length).map (zel rr xs p D K)).getD q vun = vun:=by simp [ya,a]
  rw [e1];unfold zel;split
  ·rename_i k d
   obtain ⟨e,_⟩:=zg8 d;have c:=(zhd C b (k + 1) (by omega)).1;split
   ·simp [ya,c,a]
   ·split
    ·rfl
    ·exact e0.symm
  ·exact e0.symm
inductive Mk where
 | ptr
 | own (n : Nat)
def Mk.v (id : Nat) : Mk → V
 | .ptr => .one (.ptr (id + 0) 0 0 0)
 | .own n => .one (.own id 0 0 n)
def Mk.u (b : Nat) : Mk → Value
 | .ptr => .pointer (some ⟨b,0,none⟩)
 | .own n => .slice (some ⟨b,0,none⟩) n n
def Mk.ok (sz : Nat) (es : List (List C)) : Mk → Prop
 | .ptr => es.length = 1
 | .own n => es.length = n
structure Raw (P : Program) (gops : Array Go.Oper) (xs : List Oper) (rr : Nat → R) (w0 : World) (g : G) (w : World) (a : Act) (i b : Nat) : Prop where
 it : ∃ (o : Go.Oper) (x : Oper) (sz : Nat) (es : List (List C)) (arr : Array Value) (ty : TypeId) (t : Tmp) (kd : Mk),gops[i]? = some o ∧ xs[i]? = some x ∧ zyS x = true ∧ o.dst = some t ∧ w.heap[b]? = some (.cells arr ty) ∧ a.tmps.getD t undef = kd.u b ∧
  arr.size = es.length * sz ∧ (∀ g w σ,zdS g w σ arr sz es) ∧ kd.ok sz es ∧ rr (i + 1) = ((rr i).at ((rr i).st ++ [.cells 0 sz es])).put x.dst (kd.v (rr i).st.length)
 ow : g.ow b = .no
 no : ∀ o,¬ g.N b o
 new : w0.heap.size ≤ b
structure Mid2 (P : Program) (gops : Array Go.Oper) (xs : List Oper) (κ : List Tmp) (nt p : Nat) (rr : Nat → R) (g0 : G) (w0 : World) (σ0 : zd) (D : Nat → Bool) (K : Nat) (B : Nat → Nat) (g : G) (w : World) (a : Act) : Prop where
 ext : Ext g0 w0 σ0 g w (rr K).st
 rel : Rel g w (rr K).st
 size : a.tmps.size = nt
 df : a.defers = []
 slot : ∀ (i : Nat) (t : Tmp),κ[i]? = some t → zh g w (rr K).st (zel rr xs p D K i) (a.tmps.getD t undef)
 done : ∀ i t,i < p → vis xs D K i = true → lo gops xs i = some t → zh g w (rr K).st (zbq rr i) (a.tmps.getD t undef)
 kp : K ≤ p
 before : ∀ i,i < K → eff xs i = true → D i = true
 raw : ∀ i,i < p → D i = true → vis xs D K i = false → Raw P gops xs rr w0 g w a i (B i)
 inj : ∀ i j,i < p → j < p → D i = true → vis xs D K i = false → D j = true → vis xs D K j = false → B i = B j → i = j
theorem zlo {D : Nat → Bool} {K i : Nat} (h : i ≠ K) : vis xs D (K + 1) i = vis xs D K i:=by
 unfold vis
 have : decide (i < K + 1) = decide (i < K):=by
  simp only [decide_eq_decide];omega
 rw [this]
theorem zfn {D : Nat → Bool} {K i : Nat} (h : eff xs K = false) : vis xs D (K + 1) i = vis xs D K i:=by
 by_cases e : i = K
 ·subst e
  unfold vis;simp [h]
 ·exact zlo e
theorem zIX {g g0 : G} {w w0 : World} {σ σ0 : zd} (R : Rel g w σ) (q : Ext g0 w0 σ0 g w σ) {b : Nat} {ty : TypeId} {arr : Array Value} {sz : Nat} {es : List (List C)} {kd : Mk} (A : arr.size = es.length * sz) (d : ∀ g w σ,zdS g w σ arr sz es) (f : kd.ok sz es) (m : w.heap[b]? = some (.cells arr ty))
  (r : g.ow b = .no) (z : ∀ o,¬ g.N b o) (D : w0.heap.size ≤ b) :
  Ext g0 w0 σ0 (g.own σ.length b) w (σ ++ [.cells 0 sz es]) ∧ Rel (g.own σ.length b) w (σ ++ [.cells 0 sz es]) ∧
  (∀ v u,zh g w σ v u → zh (g.own σ.length b) w (σ ++ [.cells 0 sz es]) v u) ∧
  zh (g.own σ.length b) w (σ ++ [.cells 0 sz es]) (kd.v σ.length) (kd.u b):=by
 let g1 : G:={ g with ow:=zvM g.ow b (.ob σ.length) }
 have E : Rel g1 w σ:=zvl R rfl rfl rfl (fun c id _ h => by
  by_cases e : c = b
  ·subst e; rw [r] at h; cases h
  ·exact (zas g.ow _ e).trans h) (fun c t k _ h => by
  by_cases e : c = b
  ·subst e; rw [r] at h; cases h
  ·exact (zas g.ow _ e).trans h)
 have H1 : Ext g0 w0 σ0 g1 w σ:={ q with ow:=fun c i => (zas g.ow _ (by omega)).trans (q.ow c i) };have y : b < w.heap.size:=(yc.1 m).1
 have l : Ext g1 w σ (g.own σ.length b) w (σ ++ [.cells 0 sz es]):={
  os:=rfl
  tape:=rfl
  output:=rfl
  size:=ym _
  keeps:=fun _ _ h => ⟨h,rfl⟩
  len:=by simp
  shape:=fun id B sz len h => by
   obtain ⟨es,a,s⟩:=za9 h;have p:=zb a;exact .inl ⟨by unfold shapeOf; rw [yd p]; exact h,zas g.ρ _ (by omega),fun _ arr t x => ⟨arr,x,rfl⟩⟩
  map:=fun id es h => ⟨zas g.ρ _ (by have:=zb h; omega),es,by rw [yd (zb h)]; exact h⟩
  tok:=fun t k n h => by
   obtain ⟨sz,fr,a,s⟩:=zdR h;exact ⟨n,zew (by rw [yd (zb a)]; exact a) s,ym _,fun _ => rfl⟩
  tsz:=fun t sz h => by
   obtain ⟨fr,a⟩:=zfS h;exact zde (fr:=fr) (by rw [yd (zb a)]; exact a)
  ow:=fun _ _ => rfl
  new:=fun _ _ h _ _ => h
  frame:=fun _ _ _ => rfl }
 refine ⟨H1.trans l,⟨R.nb,fun id ob h => ?_⟩,fun v u h => l.zh _ _ (zgf (g:=g) (g':=g1) rfl rfl rfl v u h),?_⟩
 ·by_cases p : id < σ.length
  ·rw [yd p] at h
   exact zcl l (zas g.ρ _ (by omega)) (fun _ => rfl) (fun c _ _ => ⟨rfl,rfl,fun _ h => h⟩) (E.ob id ob h)
  ·have j : id = σ.length:=by
    have:=zb h;simp at this;omega
   subst j;simp at h;subst h;exact fun _ => ⟨by simp [G.own],fun o => by simp [G.own]; exact z o,arr,ty,by simpa [G.own] using m,by omega,d _ _ _⟩
 ·cases kd with
  | ptr =>
    simp only [Mk.v,Mk.u,zh,zF,Nat.add_zero];exact ⟨0,sz,es.length,zC (zlv σ _),ym _,fun _ => by simp [G.own],_,rfl⟩
  | own n =>
    simp only [Mk.ok] at f;subst f;simp only [Mk.v,Mk.u,zh,zF];refine ⟨0,sz,es.length,zC (zlv σ _),ym _,fun _ => ⟨_,_,rfl,ym _,fun h => h,fun _ => ⟨by omega,fun _ => by simp [G.own],arr,ty,?_,by rw [Nat.zero_add]; omega⟩⟩,_,_,rfl⟩;simpa [G.own] using m
end
section
variable {P : Program} {κ : List Tmp} {nt : Nat} {gops : Array Go.Oper} {ps : List (Nat × Nat)} {xs : List Oper} {ms : List Nat} {p b l : Nat} {Cf : zaq} {rr : Nat → R} {g0 : G} {w0 : World} {σ0 : zd}
theorem zr8 {x : Oper} {q : Nat} (h : writes x = some q) : x.dst = .slot q:=by
 obtain ⟨d,op,a⟩:=x;cases d <;> simp [writes] at h;subst h;rfl
theorem zhu {x : Oper} {q : Nat} (h : x.dst = .slot q) : writes x = some q:=by
 obtain ⟨d,op,a⟩:=x;simp only at h;subst h;rfl
theorem zkT {α : Type} {l : List α} (c : l.Nodup) {i j : Nat} {x : α} (a : l[i]? = some x) (b : l[j]? = some x) : i = j:=by
 induction l generalizing i j with
 | nil => simp at a
 | cons y l ih =>
   rw [List.nodup_cons] at c
   cases i with
   | zero =>
     cases j with
     | zero => rfl
     | succ j =>
       simp at a b;subst a;exact absurd (ye b) c.1
   | succ i =>
     cases j with
     | zero =>
       simp at a b;subst b;exact absurd (ye a) c.1
     | succ j =>
       simp at a b;rw [ih c.2 a b]
theorem zi5 {x : Oper} (h : zyS x = true) : x.guard = none ∧ (x.dst = .loc ∨ ∃ q,x.dst = .slot q) ∧ ((∃ zero,x.op = .al zero []) ∨ ∃ zero n,x.op = .mks zero none n):=by
 unfold zyS at h;split at h
 all_goals first | exact ⟨rfl,.inl rfl,.inl ⟨_,rfl⟩⟩ | exact ⟨rfl,.inr ⟨_,rfl⟩,.inl ⟨_,rfl⟩⟩ | exact ⟨rfl,.inl rfl,.inr ⟨_,_,rfl⟩⟩ | cases h
theorem zGc {r r1 : R} {x : Oper} {zero : List C} (h : zyS x = true) (a : x.op = .al zero []) (b : step Cf r x = some r1) :
  r1 = (r.at (r.st ++ [.cells 0 zero.length [zero]])).put x.dst (.one (.ptr (r.st.length + 0) 0 0 0)):=by
 obtain ⟨c,_,_⟩:=zi5 h;obtain ⟨d,op,e⟩:=x;simp only at c a;subst c a;simp only [step,zbx,Option.some.injEq] at b;rw [← b];simp [aal,tokens,zgP,R.allocs,R.at]
theorem zGf {r r1 : R} {x : Oper} {zero : List C} {n : X} (h : zyS x = true) (b : x.op = .mks zero none n) (a : step Cf r x = some r1) :
  ∃ kk m,r.get n = .one (.f (.lit (.int kk m))) ∧ 0 ≤ m ∧ m ≤ LIM ∧ r1 = (r.at (r.st ++ [.cells 0 zero.length (yl m.toNat zero)])).put x.dst (.one (.own r.st.length 0 0 m.toNat)):=by
 obtain ⟨c,_,_⟩:=zi5 h;obtain ⟨d,op,g⟩:=x;simp only at c b;subst c b;simp only [step,zbx] at a;unfold zG5 at a;split at a
 ·rename_i e
  split at a
  ·rename_i hm
   injection a with a;exact ⟨_,_,e,hm.1,hm.2,a.symm⟩
  ·cases a
 ·contradiction
 ·cases a
theorem zvD (b : ∀ i x,xs[i]? = some x → step Cf (rr i) x = some (rr (i + 1))) {K : Nat} (c : K < xs.length) (he : eff xs K = false) : (rr (K + 1)).st = (rr K).st :=
 zpy b (a:=K) 1 (by omega) fun k d e h => by
  have : k = K:=by omega
  subst this;unfold eff at he;simp [h] at he
theorem zDM (C : Chk2 P κ nt gops ps xs ms p) (U : ∀ i x,xs[i]? = some x → step Cf (rr i) x = some (rr (i + 1))) (y : (rr 0).env.length = κ.length) {D : Nat → Bool} {K : Nat} {B : Nat → Nat} {g : G} {w : World} {a : Act}
  (M : Mid2 P gops xs κ nt p rr g0 w0 σ0 D K B g w a) (H : K < p) (h : eff xs K = false ∨ D K = true) : ∃ g',Mid2 P gops xs κ nt p rr g0 w0 σ0 D (K + 1) B g' w a:=by
 have N : K < xs.length:=yj H C.w.le
 cases he : eff xs K with
 | false =>
   have n:=zvD U N he
   have y : ∀ q,zel rr xs p D (K + 1) q = zel rr xs p D K q:=fun q => by
    unfold zel;split
    ·rw [zfn he]
    ·rfl
   refine ⟨g,⟨by rw [n]; exact M.ext,by rw [n]; exact M.rel,M.size,M.df,fun i t Z => by rw [n,y]; exact M.slot i t Z,fun i t m I Z => by rw [n]; exact M.done i t m (by rw [← zfn he]; exact I) Z,H,fun i m u => ?_,
    fun i m L I => M.raw i m L (by rw [← zfn he]; exact I),fun i j m hj s b J r => M.inj i j m hj s (by rw [← zfn he]; exact b) J (by rw [← zfn he]; exact r)⟩⟩
   by_cases e : i = K
   ·subst e; rw [he] at u; cases u
   ·exact M.before i (by omega) u
 | true =>
   have L : D K = true:=by
    rcases h with h | h
    ·rw [he] at h; cases h
    ·exact h
   have V : vis xs D K K = false:=(by simp [vis,he]);obtain ⟨⟨o,x,sz,es,arr,ty,t,kd,ho,hx,W,E,hb,A,hz,Q,aD,l⟩,aC,X,O⟩:=M.raw K H L V;obtain ⟨hg,hd,_⟩:=zi5 W;obtain ⟨H1,R1,I,hp⟩:=zIX M.rel M.ext hz Q aD hb aC X O;have n : (rr (K + 1)).st = (rr K).st ++ [.cells 0 sz es]:=(by rw [l,zfw]; rfl);rw [← n] at H1 R1 I hp;have aF : K < gops.size:=(by rw [← C.len]; exact N);have f:=(C.pre_some H ho hx).1;rw [E] at f;have d : vis xs D (K + 1) K = true:=(by simp [vis,L]);refine ⟨_,⟨H1,R1,M.size,M.df,fun q Y c => ?_,fun i Y m b c => ?_,H,fun i m u => ?_,fun i m s b => ?_,fun i j m hj s b J r hB => ?_⟩⟩
   ·
    by_cases hw : wr xs p q = some K
    ·have aE:=zg8 hw
     obtain ⟨_,x',z,aB⟩:=aE;rw [hx] at z;injection z with z;subst z;unfold zel;rw [hw];simp only [d,if_true]
     have S : x.dst = .slot q:=by
      exact zr8 aB
     rw [S] at f;simp only [okD,beq_iff_eq] at f;rw [c] at f;injection f with f;subst f;rw [A]
     have hlen : q < (rr K).env.length:=by
      rw [(zhd C.w U K (yo H)).1,y];exact zb c
     have : (rr (K + 1)).env.getD q vun = kd.v (rr K).st.length:=by
      rw [l,S];simp [R.put,R.at,ya,hlen]
     rw [this];exact hp
    ·have : zel rr xs p D (K + 1) q = zel rr xs p D K q:=by
      unfold zel;split
      ·rename_i k hk
       rw [zlo (fun e => by subst e; exact hw hk)]
      ·rfl
     rw [this];exact I _ _ (M.slot q Y c)
   ·by_cases e : i = K
    ·subst e
     have hl : lo gops xs i = zbp o.dst x.dst:=(by unfold lo; rw [ho,hx]);rw [hl,E] at c;rcases hd with hd | ⟨q,hd⟩
     ·rw [hd] at c
      simp only [zbp,Option.some.injEq] at c;subst c;rw [A]
      have : zbq rr i = kd.v (rr i).st.length:=by
       unfold zbq;rw [l,hd];rfl
      rw [this];exact hp
     ·rw [hd] at c
      simp [zbp] at c
    ·rw [zlo e] at b
     exact I _ _ (M.done i Y m b c)
   ·by_cases e : i = K
    ·subst e; exact L
    ·exact M.before i (by omega) u
   ·have e : i ≠ K:=fun e => by subst e; rw [d] at b; cases b
    rw [zlo e] at b;have aA : B i ≠ B K:=fun hB => e (M.inj i K m H s b L V hB);obtain ⟨k1,k2,k3,k4⟩:=M.raw i m s b;exact ⟨k1,(zas g.ow _ aA).trans k2,k3,k4⟩
   ·have e1 : i ≠ K:=fun e => by subst e; rw [d] at b; cases b
    have e2 : j ≠ K:=fun e => by subst e; rw [d] at r; cases r
    rw [zlo e1] at b;rw [zlo e2] at r;exact M.inj i j m hj s b J r hB
def zz8 (xs : List Oper) (p : Nat) (D : Nat → Bool) (K : Nat) : Prop:=K = p ∨ (eff xs K = true ∧ D K = false)
theorem zBU (C : Chk2 P κ nt gops ps xs ms p) (c : ∀ i x,xs[i]? = some x → step Cf (rr i) x = some (rr (i + 1))) (b : (rr 0).env.length = κ.length) {D : Nat → Bool} {B : Nat → Nat} {w : World} {a : Act} : ∀ (n K : Nat) (g : G),p - K = n →
  Mid2 P gops xs κ nt p rr g0 w0 σ0 D K B g w a → ∃ K' g',Mid2 P gops xs κ nt p rr g0 w0 σ0 D K' B g' w a ∧ zz8 xs p D K'
 | 0,K,g,hn,M => ⟨K,g,M,.inl (by have:=M.kp; omega)⟩
 | n + 1,K,g,hn,M => by
   by_cases h : eff xs K = false ∨ D K = true
   ·obtain ⟨g',d⟩:=zDM C c b M (by omega) h
    exact zBU C c b n (K + 1) g' (by omega) d
   ·simp only [not_or,Bool.not_eq_false,Bool.not_eq_true] at h
    exact ⟨K,g,M,.inr h⟩
theorem zEN {D : Nat → Bool} {K j : Nat} (a : zz8 xs p D K) (h : D j = true) (b : j < p) (he : eff xs j = true) : j ≠ K:=fun e => by
 subst e;rcases a with a | ⟨_,a⟩
 ·omega
 ·rw [h] at a; cases a
theorem Raw.ext {g g' : G} {w w' : World} {a j : Act} {σ σ' : zd} {i b : Nat} (h : Raw P gops xs rr w0 g w a i b) (H : Ext g w σ g' w' σ') (r : ∀ t,(∃ o,gops[i]? = some o ∧ o.dst = some t) → j.tmps.getD t undef = a.tmps.getD t undef) : Raw P gops xs rr w0 g' w' j i b:=by
 obtain ⟨⟨o,x,sz,es,arr,ty,t,kd,n,u,p,m,l,q,k⟩,d,f,e⟩:=h;have c : b < w.heap.size:=(yc.1 l).1;exact ⟨⟨o,x,sz,es,arr,ty,t,kd,n,u,p,m,(H.frame b c d).trans l,(r t ⟨o,n,m⟩).trans q,k⟩,(H.ow b c).trans d,fun o s => f o (H.new b o s c d),e⟩
def zn9 (gops : Array Go.Oper) (i : Nat) : Option Tmp:=(gops[i]?).bind (·.dst)
theorem zvd (C : Chk2 P κ nt gops ps xs ms p) (s : κ.Nodup) {i j : Nat} (r : i < p) (o : j < p) (l : i ≠ j) {t : Tmp} (m : zn9 gops i = some t) (n : zn9 gops j = some t) : False:=by
 have e : i < gops.size:=yj r C.p_le;have c : j < gops.size:=yj o C.p_le;have k : gops[i]? = some gops[i]:=yh e;have g : gops[j]? = some gops[j]:=yh c;have f : xs[i]? = some (xs[i]'(by rw [C.len]; exact e)):=yi (by rw [C.len]; exact e);have d : xs[j]? = some (xs[j]'(by rw [C.len]; exact c)):=yi (by rw [C.len]; exact c);have di:=(C.pre_some r k f).1;have dj:=(C.pre_some o g d).1;unfold zn9 at m n;rw [k] at m;rw [g] at n;simp only [Option.bind_some] at m n;rw [m] at di;rw [n] at dj
 cases b : (xs[i]'(by rw [C.len]; exact e)).dst with
 | no => rw [b] at di; simp [okD] at di
 | loc =>
   rw [b] at di
   cases a : (xs[j]'(by rw [C.len]; exact c)).dst with
   | no => rw [a] at dj; simp [okD] at dj
   | loc =>
     have e1 : lo gops xs i = some t:=(by unfold lo; rw [k,f]; simp [zbp,m,b]);have e2 : lo gops xs j = some t:=(by unfold lo; rw [g,d]; simp [zbp,n,a]);exact l (C.plan.apart i j t r o e1 e2)
   | slot q =>
     rw [a] at dj;simp only [okD,beq_iff_eq] at dj;simp only [okD,yb,yk] at di;have : t ∈ κ:=ye dj;simp [this] at di
 | slot q =>
   rw [b] at di;simp only [okD,beq_iff_eq] at di
   cases a : (xs[j]'(by rw [C.len]; exact c)).dst with
   | no => rw [a] at dj; simp [okD] at dj
   | loc =>
     rw [a] at dj;simp only [okD,yb,yk] at dj;have : t ∈ κ:=ye di;simp [this] at dj
   | slot q' =>
     rw [a] at dj;simp only [okD,beq_iff_eq] at dj;have u : q = q':=zkT s di dj;subst u;rcases Nat.lt_or_gt_of_ne l with h | h
     ·exact (C.pair h o f d).2.1 q (zhu b) (zhu a)
     ·exact (C.pair h r d f).2.1 q (zhu a) (zhu b)
theorem znB {a : Act} {d : Option Tmp} {u : Value} {t : Tmp} (h : d ≠ some t) : (a.put d u).tmps.getD t undef = a.tmps.getD t undef:=by
 cases d with
 | none => rfl
 | some t' =>
   simp only [Act.put,zij];rw [if_neg (fun e => h (by rw [e.1]))]
end
section
variable {P : Program} {κ : List Tmp} {nt : Nat} {gops : Array Go.Oper} {ps : List (Nat × Nat)} {xs : List Oper} {ms : List Nat} {p b l : Nat} {Cf : zaq} {rr : Nat → R} {g0 : G} {w0 : World} {σ0 : zd}
theorem zFi (C : Chk2 P κ nt gops ps xs ms p) {D : Nat → Bool} {K j i : Nat} (a : zh9 gops D) (t : ∀ i ∈ zaO gops j,D i = true) (f : zz8 xs p D K) (m : i < j) (s : j < p) {x y : Oper} (o : xs[i]? = some x) (r : xs[j]? = some y) (e : D i = true)
  (hu : zyS x = true → zuk xs gops j i y = true) : vis xs D K i = true:=by
 cases he : eff xs i with
 | false => simp [vis,e,he]
 | true =>
   have l:=zEN f e (by omega) he
   have g : i < K:=by
    rcases Nat.lt_trichotomy i K with h | h | h
    ·exact h
    ·exact absurd h l
    ·rcases f with f | ⟨c,d⟩
     ·omega
     ·have n : K < xs.length:=by have:=C.w.le; omega
      have k : xs[K]? = some xs[K]:=yi n;rcases (C.pair h (by omega) k o).2.2.1 c he with b | q
      ·have:=(C.pair m s o r).2.2.2 b (hu b) K h c
       have:=zbg a this t;rw [d] at this; cases this
      ·have:=zbg a q (a i e)
       rw [d] at this; cases this
   simp [vis,e,g]
theorem zrQ (C : Chk2 P κ nt gops ps xs ms p) (m : ∀ i x,xs[i]? = some x → step Cf (rr i) x = some (rr (i + 1))) (e : (rr 0).env.length = κ.length) (h : κ.Nodup) (k : ∀ t ∈ κ,t < nt) {D : Nat → Bool} {K j : Nat} {B : Nat → Nat} {g : G} {w : World} {a : Act}
  (s : j ≤ p) (f : Nat → Option Tmp) (o : ∀ i t,i < j → f i = some t → vis xs D K i = true ∧ lo gops xs i = some t) (M : Mid2 P gops xs κ nt p rr g0 w0 σ0 D K B g w a) :
  Fr κ ((yf j).reverse.map f) nt g w ⟨(yf j).reverse.map (zbq rr),zpz rr xs p D K,(rr K).st,b,l⟩ a:=by
 refine ⟨M.size,by simp [zpz,e],fun i t q => by simp only [znF C.w m]; exact M.slot i t q,fun d t hd _ => ?_,fun d t hd => ?_,h,k,M.df⟩
 ·have c : d < j:=by have:=zb hd; simpa using this
  rw [zkq f c] at hd;injection hd with hd;obtain ⟨r,n⟩:=o _ t (by omega) hd;simp only [ya,zkq (zbq rr) c,Option.getD_some];exact M.done _ t (by omega) r n
 ·have c : d < j:=by have:=zb hd; simpa using this
  rw [zkq f c] at hd;injection hd with hd;obtain ⟨_,n⟩:=o _ t (by omega) hd;exact zp2 C.plan (by omega : j - 1 - d < p) n
theorem zqx {D : Nat → Bool} {K a j i : Nat} (h : (a = K ∧ eff xs j = false) ∨ (a = K + 1 ∧ j = K)) : vis xs (zby D j) a i = if i = j then true else vis xs D K i:=by
 by_cases e : i = j
 ·subst e
  rw [if_pos rfl];rcases h with ⟨_,h⟩ | ⟨rfl,rfl⟩
  ·simp [vis,zby,h]
  ·simp [vis,zby]
 ·rw [if_neg e]
  have : zby D j i = D i:=by simp [zby,e]
  unfold vis;rw [this];rcases h with ⟨rfl,_⟩ | ⟨rfl,rfl⟩
  ·rfl
  ·have : decide (i < j + 1) = decide (i < j):=by
    simp only [decide_eq_decide];omega
   rw [this]
theorem zuf (C : Chk2 P κ nt gops ps xs ms p) (L : ∀ i x,xs[i]? = some x → step Cf (rr i) x = some (rr (i + 1))) (O : (rr 0).env.length = κ.length) (aA : κ.Nodup) {D : Nat → Bool} {K n j : Nat} {B : Nat → Nat} {g g' : G} {w w' : World} {a : Act} {u : Value} {o : Go.Oper} {x : Oper} {v : V} {σ1 : zd}
  (M : Mid2 P gops xs κ nt p rr g0 w0 σ0 D K B g w a) (I : (n = K ∧ eff xs j = false) ∨ (n = K + 1 ∧ j = K)) (S : j < p) (aE : D j = false) (ho : gops[j]? = some o) (W : xs[j]? = some x) (hv : rr (j + 1) = ((rr j).at σ1).put x.dst v)
  (H : Ext g w (rr K).st g' w' (rr n).st) (R1 : Rel g' w' (rr n).st)
  (F : Fr κ (zbp o.dst x.dst :: zfX gops xs j) nt g' w' ((⟨(yf j).reverse.map (zbq rr),zpz rr xs p D K,(rr n).st,b,l⟩ : R).put x.dst v) (a.put o.dst u)) :
  Mid2 P gops xs κ nt p rr g0 w0 σ0 (zby D j) n B g' w' (a.put o.dst u):=by
 have J : x.dst = .loc → zbq rr j = v:=fun h => by unfold zbq; rw [hv,h]; rfl
 have aF:=(C.pre_some S ho W).1
 have aB : n ≤ p:=by
  rcases I with ⟨rfl,_⟩ | ⟨rfl,rfl⟩
  ·exact M.kp
  ·omega
 have z : ((⟨(yf j).reverse.map (zbq rr),zpz rr xs p D K,(rr n).st,b,l⟩ : R).put x.dst v).st = (rr n).st:=zfw _ _ _;have hold : ∀ i,i ≠ j → i < p → vis xs (zby D j) n i = vis xs D K i:=fun i f _ => by rw [zqx I,if_neg f]
 have A : ∀ i,i ≠ j → i < p → ∀ t,zn9 gops i = some t → (a.put o.dst u).tmps.getD t undef = a.tmps.getD t undef:=fun i f X t d => znB fun e =>
  zvd C aA X S f d (by unfold zn9; rw [ho]; exact e)
 refine ⟨M.ext.trans H,R1,F.size,F.df,fun q t d => ?_,fun i t f c d => ?_,aB,fun i f Q => ?_,fun i f E c => ?_,fun i i' f N E c r m hB => ?_⟩
 ·have Y:=F.env q t d
  rw [z] at Y
  have e : ((⟨(yf j).reverse.map (zbq rr),zpz rr xs p D K,(rr n).st,b,l⟩ : R).put x.dst v).env.getD q vun = zel rr xs p (zby D j) n q:=by
   by_cases hw : writes x = some q
   ·have hd:=zr8 hw
    rw [hd];have hq : q < (rr 0).env.length:=(by rw [O]; exact zb d);have aC : q < (rr j).env.length:=(by rw [(zhd C.w L j (yo S)).1]; exact hq);have Z:=zDP C.w S W hw;unfold zel;rw [Z];simp only [zqx I,if_true];rw [hv,hd];simp [R.put,R.at,ya,zpz,hq,aC]
   ·have e1 : ((⟨(yf j).reverse.map (zbq rr),zpz rr xs p D K,(rr n).st,b,l⟩ : R).put x.dst v).env.getD q vun = (zpz rr xs p D K).getD q vun:=by
     cases hd : x.dst with
     | no => rfl
     | loc => rfl
     | slot q' =>
       have y : q' ≠ q:=fun e => hw (by rw [← e]; exact zhu hd);simp only [R.put,ya,List.getElem?_set_ne y]
    rw [e1,znF C.w L];unfold zel;split
    ·rename_i k hk
     obtain ⟨k1,x',U,k3⟩:=zg8 hk
     have y : k ≠ j:=fun e => by subst e; rw [W] at U; injection U with U; subst U; exact hw k3
     have : zby D j k = D k:=(by simp [zby,y]);rw [hold k y k1,this]
    ·rfl
  rw [e] at Y;exact Y
 ·by_cases e : i = j
  ·subst e
   have s : zbp o.dst x.dst = some t:=by
    unfold lo at d;rw [ho,W] at d;exact d
   have hd : x.dst = .loc:=by
    unfold zbp at s;split at s
    ·rename_i h; exact h
    ·cases s
   have h0:=F.lc 0 t (by simp [s]) (by simp);rw [z] at h0;rw [J hd];rw [hd] at h0;simpa [R.put] using h0
  ·rw [hold i e f] at c
   have:=H.zh _ _ (M.done i t f c d)
   have aD : zn9 gops i = some t:=by
    unfold lo at d;unfold zn9;split at d
    ·rename_i o' x' h1 h2
     rw [h1];unfold zbp at d;split at d
     ·rename_i h3 _; injection d with d; subst d; exact h3
     ·cases d
    ·cases d
   rw [A i e f t aD];exact this
 ·by_cases e : i = j
  ·subst e; simp [zby]
  ·have : zby D j i = D i:=by simp [zby,e]
   rw [this];rcases I with ⟨rfl,_⟩ | ⟨rfl,rfl⟩
   ·exact M.before i f Q
   ·exact M.before i (by omega) Q
 ·have e : i ≠ j:=fun e => by subst e; rw [zqx I,if_pos rfl] at c; cases c
  rw [hold i e f] at c;have r : D i = true:=by simpa [zby,e] using E
  exact (M.raw i f r c).ext H fun t ⟨o',h1,h2⟩ => A i e f t (by unfold zn9; rw [h1]; exact h2)
 ·have e : i ≠ j:=fun e => by subst e; rw [zqx I,if_pos rfl] at c; cases c
  have e' : i' ≠ j:=fun e => by subst e; rw [zqx I,if_pos rfl] at m; cases m
  rw [hold i e f] at c;rw [hold i' e' N] at m;exact M.inj i i' f N (by simpa [zby,e] using E) c (by simpa [zby,e'] using r) m hB
theorem zug (C : Chk2 P κ nt gops ps xs ms p) (Y : κ.Nodup) (aG : ∀ t ∈ κ,t < nt) {D : Nat → Bool} {K j : Nat} {B : Nat → Nat} {g : G} {w : World} {a : Act} {o : Go.Oper} {x : Oper}
  (M : Mid2 P gops xs κ nt p rr g0 w0 σ0 D K B g w a) (hj : j < p) (aJ : K < j) (he : eff xs j = true) (Q : zyS x = true) (ho : gops[j]? = some o) (hx : xs[j]? = some x) {t : Tmp} (f : o.dst = some t)
  {sz : Nat} {es : List (List Go.A.C)} {arr : Array Value} {ty : TypeId} {kd : Mk} (aA : arr.size = es.length * sz) (R : ∀ g w σ,zdS g w σ arr sz es) (aF : kd.ok sz es) (O : rr (j + 1) = ((rr j).at ((rr j).st ++ [.cells 0 sz es])).put x.dst (kd.v (rr j).st.length)) :
  ∃ g' B',Mid2 P gops xs κ nt p rr g0 w0 σ0 (zby D j) K B' g' (w.alloc (.cells arr ty)) (a.put o.dst (kd.u w.heap.size)):=by
 obtain ⟨W,E,_⟩:=zi5 Q;obtain ⟨k,_,hc,_⟩:=C.pre_some hj ho hx
 have J : t < nt ∧ (t ∈ κ → ∃ q,x.dst = .slot q ∧ κ[q]? = some t):=by
  rw [f] at k;rcases E with E | ⟨q,E⟩
  ·rw [E] at k
   simp only [okD,yb,yk,decide_eq_true_eq] at k;exact ⟨k.2,fun h => absurd h (by simpa using k.1)⟩
  ·rw [E] at k
   simp only [okD,beq_iff_eq] at k;exact ⟨aG t (ye k),fun _ => ⟨q,E,k⟩⟩
 let ob : Obj:=.cells arr ty
 let g' : G:={ g with ow:=zvM g.ow w.heap.size .no }
 have H : Ext g w (rr K).st g' (w.alloc ob) (rr K).st:=by
  have:=Ext.alloc M.rel ob g' (fun _ _ => rfl) (fun _ _ _ _ => rfl) (fun b hb => zas g.ow _ (by omega)) (fun _ _ _ => Iff.rfl) [];simpa using this
 have R1 : Rel g' (w.alloc ob) (rr K).st:=⟨fun b i h => by rw [size_alloc]; have:=M.rel.nb b i h; omega,fun id X h => zcl H rfl (fun _ => rfl) (fun b hb _ => ⟨heap_alloc_old w ob hb,zas g.ow _ (by omega),fun _ h => h⟩) (M.rel.ob id X h)⟩;refine ⟨g',zvM B j w.heap.size,?_⟩;have U : vis xs (zby D j) K j = false:=by simp [vis,zby,he]; omega
 have hold : ∀ i,i ≠ j → vis xs (zby D j) K i = vis xs D K i:=fun i l => by simp [vis,zby,l]
 have L : ∀ i,i ≠ j → i < p → ∀ r,zn9 gops i = some r → ∀ u,(a.put o.dst u).tmps.getD r undef = a.tmps.getD r undef:=fun i l aH r ht u => znB fun e =>
  zvd C Y aH hj l ht (by unfold zn9; rw [ho]; exact e)
 have s : ∀ i,i < p → D i = true → vis xs D K i = false → B i < w.heap.size:=fun i l y d => by
  obtain ⟨⟨_,_,_,_,_,_,_,_,_,_,_,_,h7,_⟩,_⟩:=M.raw i l y d;exact (yc.1 h7).1
 refine ⟨M.ext.trans H,R1,by simp [Act.put,f,M.size],by simp [Act.put,f,M.df],fun q r c => ?_,fun i r l d c => ?_,M.kp,fun i l aB => ?_,fun i l y d => ?_,fun i N l V y d m n hB => ?_⟩
 ·by_cases hw : writes x = some q
  ·have aI:=zDP C.w hj hx hw
   unfold zel;rw [aI];simp only [U,Bool.false_eq_true,if_false];have : zby D j j = true:=(by simp [zby]);rw [this];simp only [if_true,vun,zh,zF]
  ·have e1 : zel rr xs p (zby D j) K q = zel rr xs p D K q:=by
    unfold zel;split
    ·rename_i k' hk
     obtain ⟨_,x',Z,k3⟩:=zg8 hk
     have S : k' ≠ j:=fun e => by subst e; rw [hx] at Z; injection Z with Z; subst Z; exact hw k3
     have : zby D j k' = D k':=(by simp [zby,S]);rw [hold k' S,this]
    ·rfl
   rw [e1]
   have e2 : o.dst ≠ some r:=fun e => by
    rw [f] at e;injection e with e;subst e;obtain ⟨q',aD,aE⟩:=J.2 (ye c);have:=zkT Y aE c;subst this;exact hw (zhu aD)
   rw [znB e2];exact H.zh _ _ (M.slot q r c)
 ·have e : i ≠ j:=fun e => by subst e; rw [U] at d; cases d
  rw [hold i e] at d
  have aC : zn9 gops i = some r:=by
   unfold lo at c;unfold zn9;split at c
   ·rename_i X x' W E
    rw [W];unfold zbp at c;split at c
    ·rename_i h3 _; injection c with c; subst c; exact h3
    ·cases c
   ·cases c
  rw [L i e l r aC];exact H.zh _ _ (M.done i r l d c)
 ·have : i ≠ j:=by omega
  have h0 : zby D j i = D i:=by simp [zby,this]
  rw [h0];exact M.before i l aB
 ·by_cases e : i = j
  ·subst e
   rw [zeV];refine ⟨⟨o,x,sz,es,arr,ty,t,kd,ho,hx,Q,f,zaP w ob,?_,aA,R,aF,O⟩,zeV g.ow _ _,fun X hN => ?_,M.ext.size⟩
   ·rw [f]
    simp [Act.put,M.size,J.1]
   ·have:=M.rel.nb _ X hN
    omega
  ·rw [hold i e] at d
   have m : D i = true:=(by simpa [zby,e] using y);rw [zas B _ e];exact (M.raw i l m d).ext H fun r ⟨X,W,E⟩ => L i e l r (by unfold zn9; rw [W]; exact E) _
 ·by_cases e : i = j
  ·by_cases I : N = j
   ·rw [e,I]
   ·subst e
    rw [hold N I] at n;have z : D N = true:=(by simpa [zby,I] using m);have:=s N V z n;rw [zeV,zas B _ I] at hB;omega
  ·rw [hold i e] at d
   have z : D i = true:=(by simpa [zby,e] using y);have W:=s i l z d
   by_cases I : N = j
   ·subst I
    rw [zeV,zas B _ e] at hB;omega
   ·rw [hold N I] at n
    rw [zas B _ e,zas B _ I] at hB;exact M.inj i N l V z d (by simpa [zby,I] using m) n hB
theorem zEO (C : Chk2 P κ nt gops ps xs ms p) (O : ∀ i x,xs[i]? = some x → step Cf (rr i) x = some (rr (i + 1))) (V : κ.Nodup) (N : ∀ t ∈ κ,t < nt) {D : Nat → Bool} {K j : Nat} {B : Nat → Nat} {g : G} {w : World} {a : Act} {o : Go.Oper} {x : Oper} {next : Act → World → Prop} {Q : Exit → Act → World → Prop} {r' : R}
  (M : Mid2 P gops xs κ nt p rr g0 w0 σ0 D K B g w a) (hj : j < p) (Y : K < j) (he : eff xs j = true) (d : zyS x = true) (ho : gops[j]? = some o) (S : xs[j]? = some x)
  (F : Fr κ (zfX gops xs j) nt g w r' a) (U : ∀ y ∈ zfa x,r'.get y = (rr j).get y)
  (k : ∀ g' w' u B',Mid2 P gops xs κ nt p rr g0 w0 σ0 (zby D j) K B' g' w' (a.put o.dst u) → next (a.put o.dst u) w') : o.wp P a w next Q:=by
 obtain ⟨h1,h2,b⟩:=zi5 d;obtain ⟨A,_,f,_⟩:=C.pre_some hj ho S
 obtain ⟨t,s⟩ : ∃ t,o.dst = some t:=by
  cases hd : o.dst with
  | some t => exact ⟨t,rfl⟩
  | none =>
    rw [hd] at A;rcases h2 with h2 | ⟨q,h2⟩ <;> rw [h2] at A <;> simp [okD] at A
 rcases b with ⟨zero,b⟩ | ⟨zero,n,b⟩
 ·have hs:=zGc d b (O j x S)
  rw [b] at f;simp only [znN] at f;split at f
  ·rename_i ty aA
   obtain ⟨W,hz,r,_⟩:=zmE f;obtain ⟨i,z,H,k2,k3⟩:=zc5 hz;have aC : z.cells = W.toArray:=(by rw [← k3]);obtain ⟨v,q2⟩:=za3 (g:=g) (w:=w) (σ:=[]) r;have hl : W.length = zero.length:=zQ v
   obtain ⟨g',B',M'⟩:=zug (sz:=zero.length) (es:=[zero]) (arr:=W.toArray) (ty:=ty) (kd:=.ptr) C V N M hj Y he d ho S s (by simp [hl]) (fun g w σ => by
    obtain ⟨h,E⟩:=za3 (g:=g) (w:=w) (σ:=σ) r
    exact zoG h E) rfl hs
   refine zm1 (u:=.pointer (some ⟨w.heap.size,0,none⟩)) (w':=w.alloc (.cells W.toArray ty)) ?_ (k g' _ _ B' M');unfold execOp;simp only [aA];simp [Instr.alloc,zco (w:=w) H k2,newVar,newRow,aC]
  ·cases f
 ·obtain ⟨kk,m,hv,aE,aD,hs⟩:=zGf d b (O j x S)
  have aF:=U n (by rw [show zfa x = opX x.op ++ _ from rfl,b]; simp [opX]);rw [b] at f;simp only [znN] at f;split at f
  ·rename_i t' l c aB
   simp only [yb,beq_iff_eq] at f;obtain ⟨⟨rfl,v⟩,q2⟩:=f;split at v
   ·rename_i e ht
    split at v
    ·rename_i i hi
     simp only [yb,decide_eq_true_eq] at v;obtain ⟨⟨h3,h4⟩,Z⟩:=v;split at Z
     ·rename_i W hz
      simp only [yb,beq_iff_eq] at Z;obtain ⟨⟨h6,h7⟩,_⟩:=Z;obtain ⟨i',z,H,k2,k3⟩:=zc5 hz;rw [hi] at H;injection H with H;subst H;subst k3;have r : z.cells.size = i.size:=by simpa using h6
      have X : zero.length = i.size:=by
       obtain ⟨h,_⟩:=za3 (g:=g) (w:=w) (σ:=[]) h7;rw [← zQ h];exact h6
      have J:=F.get q2;rw [aF,hv] at J;obtain ⟨ex,_⟩:=z7 J
      have L : (execOp a.eval o).run P w = .ok (.value (.slice (some ⟨w.heap.size,0,none⟩) m.toNat m.toNat)) (w.alloc (.cells (madeCells z.cells (m.toNat * i.size)).toList.toArray e)):=by
       unfold execOp;simp only [aB,ex,Sem.run_bind,zuC (P:=P) (w:=w) ht hi k2 aE aD h3,Result.andThen_ok,Sem.run_pure]
      have I : ∀ g w σ,zdS g w σ (madeCells z.cells (m.toNat * i.size)).toList.toArray zero.length (yl m.toNat zero):=fun g w σ => by
       obtain ⟨h,E⟩:=za3 (g:=g) (w:=w) (σ:=σ) h7;have:=zmX (g:=g) (w:=w) (σ:=σ) (es:=yl m.toNat zero) r h4 (fun e he => by rw [(List.mem_replicate.1 he).2]; exact h) E;rw [List.length_replicate] at this;rw [Array.toArray_toList,X];exact this
      obtain ⟨g',B',M'⟩:=zug (sz:=zero.length) (es:=yl m.toNat zero) (arr:=(madeCells z.cells (m.toNat * i.size)).toList.toArray) (ty:=e) (kd:=.own m.toNat) C V N M hj Y he d ho S s (by simp [size_madeCells,X]) I (by simp [Mk.ok]) hs;exact zm1 L (k g' _ _ B' M')
     ·cases Z
    ·cases v
   ·cases v
  ·cases f
end
end Go.A

/- A part of the proof of SchedTells. Conditions: none. -/
import Derived.Test.YtmkncmffaaninaaGreatTAL
set_option linter.all false
open List renaming getD_eq_getElem?_getD → ya,getElem?_append_left → yd,mem_of_getElem? → ye,range → yf,all_eq_true → yg,getElem?_eq_getElem → yi,replicate → yl
open Bool renaming and_eq_true → yb,not_eq_true' → yk,or_eq_true → yn
open Array renaming getElem?_eq_some_iff → yc,getElem?_eq_getElem → yh
open Nat renaming lt_of_lt_of_le → yj,le_refl → ym,le_of_lt → yo
namespace Go.A
def zyg : Oper → Bool
 | ⟨.loc,.al _ [],none⟩ => true
 | ⟨.slot _,.al _ [],none⟩ => true
 | ⟨.loc,.mks _ none _,none⟩ => true
 | _ => false
def eff (xs : List Oper) (i : Nat) : Bool:=decide (3 ≤ cls xs i)
def zGY (ms : List Nat) (xs : List Oper) (p j K : Nat) : Bool:=!(decide (K < p) && bit ms j K) && (yf K).all fun e => !(eff xs e && bit ms e j)
def harmless (xs : List Oper) (p c j K : Nat) : Bool:=(yf p).all fun i => !(eff xs i) || !(decide (min j K ≤ i) && decide (i < max j K)) || cls xs i == 4 || (c == 1 && decide (cls xs i ≤ 4))
def zyp : D → Bool
 | .loc => true
 | _ => false
def zH5 : Op → Bool
 | .call _ _ _ => false
 | _ => true
def zwn (ms : List Nat) (xs : List Oper) (ps : List (Nat × Nat)) (p j : Nat) (x : Oper) : Bool :=
 za5 x.op == 0 || decide (3 ≤ za5 x.op) || (yf (p + 1)).all fun K => !(K == p || eff xs K) || !(zGY ms xs p j K) || harmless xs p (za5 x.op) j K || (ps.contains (j,K) && zyp x.dst && zH5 x.op)
def zuj (xs : List Oper) (gops : Array Go.Oper) (j i : Nat) (y : Oper) : Bool:=(zaF gops j).contains i || (match (xs[i]?).bind writes with
 | some q => zgh q y
 | none => false)
def zs1 (ms : List Nat) (gops : Array Go.Oper) (xs : List Oper) (i j : Nat) : Bool:=match xs[i]?,xs[j]? with
 | some x,some y => (zhf x y || bit ms j i) && (match writes x,writes y with
   | some q,some q' => q != q'
   | _,_ => true) && (!(eff xs i && eff xs j) || zyg y || bit ms j i) && (!(zyg x && zuj xs gops j i y) || (yf i).all fun e => !(eff xs e) || bit ms j e)
 | _,_ => false
def zv6 (P : Program) (κ : List Tmp) (nt : Nat) (gops : Array Go.Oper) (ps : List (Nat × Nat)) (xs : List Oper) (ms : List Nat) (p j : Nat) : Bool:=match gops[j]?,xs[j]? with
 | some o,some x => okD κ nt o.dst x.dst && zgz κ (zga gops xs j) gops o.guard x.guard && znx P κ (zga gops xs j) o x.dst x.op && (zfu x).all (zyP (zga gops xs j)) && (yf j).all (fun i => zs1 ms gops xs i j) && zwn ms xs ps p j x
 | _,_ => false
def zpA (P : Program) : List Tmp → Nat → Array Go.Oper → List (Nat × Nat) → List Oper → Bool:=fun κ nt gops ps xs =>
 let ms:=znG gops.toList []
 let p:=zpq ms gops.size
 zjD gops ms && xs.length == gops.size && decide (p ≤ gops.size) && zkG (zF1 gops xs p) && (yf p).all (zv6 P κ nt gops ps xs ms p) && (yf gops.size).all fun j => decide (j < p) || zjx P κ nt gops xs ms j
structure Chk2 (P : Program) (κ : List Tmp) (nt : Nat) (gops : Array Go.Oper) (ps : List (Nat × Nat)) (xs : List Oper) (ms : List Nat) (p : Nat) : Prop where
 masks : zjD gops ms = true
 len : xs.length = gops.size
 p_le : p ≤ gops.size
 dup : zkG (zF1 gops xs p) = true
 pre : ∀ j,j < p → zv6 P κ nt gops ps xs ms p j = true
 tail : ∀ j,p ≤ j → j < gops.size → zjx P κ nt gops xs ms j = true
section
variable {P : Program} {κ : List Tmp} {nt : Nat} {gops : Array Go.Oper} {ps : List (Nat × Nat)} {xs : List Oper} {ms : List Nat} {p b l : Nat} {Cf : zai} {rr : Nat → R}
theorem zFT (h : zpA P κ nt gops ps xs = true) : ∃ ms p,Chk2 P κ nt gops ps xs ms p:=by
 unfold zpA at h;simp only [yb,beq_iff_eq,decide_eq_true_eq] at h;obtain ⟨⟨⟨⟨⟨f,c⟩,d⟩,g⟩,e⟩,i⟩:=h;refine ⟨_,_,f,c,d,g,fun j b => yg.1 e j (by simpa using b),fun j b a => ?_⟩;have:=yg.1 i j (by simpa using a);simp only [yn,decide_eq_true_eq] at this;rcases this with h | h
 ·omega
 ·exact h
theorem Chk2.pre_some (C : Chk2 P κ nt gops ps xs ms p) {j : Nat} (b : j < p) {o : Go.Oper} {x : Oper} (d : gops[j]? = some o) (e : xs[j]? = some x) :
  okD κ nt o.dst x.dst = true ∧ zgz κ (zga gops xs j) gops o.guard x.guard = true ∧ znx P κ (zga gops xs j) o x.dst x.op = true ∧ (∀ y ∈ zfu x,zyP (zga gops xs j) y = true) ∧ (∀ i,i < j → zs1 ms gops xs i j = true) ∧ zwn ms xs ps p j x = true:=by
 have h:=C.pre j b;unfold zv6 at h;rw [d,e] at h;simp only [yb] at h;obtain ⟨⟨⟨⟨⟨g,a⟩,c⟩,k⟩,f⟩,m⟩:=h;exact ⟨g,a,c,fun y l => yg.1 k y l,fun i n => yg.1 f i (by simpa using n),m⟩
theorem Chk2.plan (C : Chk2 P κ nt gops ps xs ms p) : Plan P κ nt gops xs p where
 len:=C.len
 p_le:=C.p_le
 back:=fun j o b i d => by
  have a : j < gops.size:=(yc.1 b).1;exact (zly C.masks a).2 i (by unfold zaF; rw [b]; exact d)
 pre:=fun j o x a b f => (C.pre_some a b f).1
 apart:=fun i j t d a g e => zlq C.dup List.nodup_range i (by simpa using d) j (by simpa using a) t g e
 tail:=fun j o x a b f => by
  have c : j < gops.size:=(yc.1 b).1;have h:=C.tail j a c;unfold zjx at h;rw [b,f] at h;simp only [yb] at h;obtain ⟨⟨⟨g,e⟩,k⟩,l⟩:=h;exact ⟨g,e,k,fun i d => zfF C.masks j c (yg.1 l i (by simpa using d))⟩
theorem Chk2.pair (C : Chk2 P κ nt gops ps xs ms p) {i j : Nat} (f : i < j) (m : j < p) {x y : Oper} (u : xs[i]? = some x) (n : xs[j]? = some y) :
  (zhf x y = true ∨ Reach gops j i) ∧ (∀ q,writes x = some q → writes y ≠ some q) ∧ (eff xs i = true → eff xs j = true → zyg y = true ∨ Reach gops j i) ∧
  (zyg x = true → zuj xs gops j i y = true → ∀ e,e < i → eff xs e = true → Reach gops j e):=by
 have a : j < gops.size:=yj m C.p_le;have h:=(C.pre_some m (yh a) n).2.2.2.2.1 i f;unfold zs1 at h;rw [u,n] at h;simp only [yb,yn] at h;obtain ⟨⟨⟨s,o⟩,b⟩,c⟩:=h;refine ⟨s.imp id fun h => zfF C.masks j a h,fun q r d => ?_,fun g k => ?_,fun t hu e he l => ?_⟩
 ·rw [r,d] at o
  simp at o
 ·rcases b with (b | b) | b
  ·simp [g,k] at b
  ·exact .inl b
  ·exact .inr (zfF C.masks j a b)
 ·rcases c with c | c
  ·simp [t,hu] at c
  ·have:=yg.1 c e (by simpa using he)
   simp only [yn,yk] at this;rcases this with h | h
   ·rw [l] at h; cases h
   ·exact zfF C.masks j a h
theorem Chk2.w (C : Chk2 P κ nt gops ps xs ms p) : ChkW xs p:=⟨by rw [C.len]; exact C.p_le,fun a b _ _ c d => (C.pair a b c d).2.1⟩
def vis (xs : List Oper) (D : Nat → Bool) (K k : Nat) : Bool:=D k && (!(eff xs k) || decide (k < K))
def zep (rr : Nat → R) (xs : List Oper) (p : Nat) (D : Nat → Bool) (K q : Nat) : V:=match wr xs p q with
 | some k => if vis xs D K k then (rr (k + 1)).env.getD q vun else if D k then vun else (rr 0).env.getD q vun
 | none => (rr 0).env.getD q vun
def zpG (rr : Nat → R) (xs : List Oper) (p : Nat) (D : Nat → Bool) (K : Nat) : List V:=(yf (rr 0).env.length).map (zep rr xs p D K)
theorem znb {D : Nat → Bool} {K q : Nat} (C : ChkW xs p) (b : ∀ i x,xs[i]? = some x → step Cf (rr i) x = some (rr (i + 1))) : (zpG rr xs p D K).getD q vun = zep rr xs p D K q:=by
 unfold zpG
 by_cases a : q < (rr 0).env.length
 ·simp [ya,a]
 ·have e0 : (rr 0).env.getD q vun = vun:=by simp [ya,a]
  have e1 : ((yf (rr 0).env.length).map (zep rr xs p D K)).getD q vun = vun:=by simp [ya,a]
  rw [e1];unfold zep;split
  ·rename_i k c
   obtain ⟨e,_⟩:=zhc c;have d:=(zhb C b (k + 1) (by omega)).1;split
   ·simp [ya,d,a]
   ·split
    ·rfl
    ·exact e0.symm
  ·exact e0.symm
inductive Mk where
 | ptr
 | own (n : Nat)
def Mk.v (id : Nat) : Mk → V
 | .ptr => .one (.ptr (id + 0) 0 0 0)
 | .own n => .one (.own id 0 0 n)
def Mk.u (b : Nat) : Mk → Value
 | .ptr => .pointer (some ⟨b,0,none⟩)
 | .own n => .slice (some ⟨b,0,none⟩) n n
def Mk.ok (sz : Nat) (es : List (List C)) : Mk → Prop
 | .ptr => es.length = 1
 | .own n => es.length = n
structure Raw (P : Program) (gops : Array Go.Oper) (xs : List Oper) (rr : Nat → R) (w0 : World) (g : G) (w : World) (a : Act) (i b : Nat) : Prop where
 it : ∃ (o : Go.Oper) (x : Oper) (sz : Nat) (es : List (List C)) (arr : Array Value) (ty : TypeId) (t : Tmp) (kd : Mk),gops[i]? = some o ∧ xs[i]? = some x ∧ zyg x = true ∧ o.dst = some t ∧ w.heap[b]? = some (.cells arr ty) ∧ a.tmps.getD t undef = kd.u b ∧
  arr.size = es.length * sz ∧ (∀ g w σ,zci g w σ arr sz es) ∧ kd.ok sz es ∧ rr (i + 1) = ((rr i).at ((rr i).st ++ [.cells 0 sz es])).put x.dst (kd.v (rr i).st.length)
 ow : g.ow b = .no
 no : ∀ o,¬ g.N b o
 new : w0.heap.size ≤ b
structure Mid2 (P : Program) (gops : Array Go.Oper) (xs : List Oper) (κ : List Tmp) (nt p : Nat) (rr : Nat → R) (g0 : G) (w0 : World) (σ0 : zd) (D : Nat → Bool) (K : Nat) (B : Nat → Nat) (g : G) (w : World) (a : Act) : Prop where
 ext : Ext g0 w0 σ0 g w (rr K).st
 rel : Rel g w (rr K).st
 size : a.tmps.size = nt
 df : a.defers = []
 slot : ∀ (i : Nat) (t : Tmp),κ[i]? = some t → zf g w (rr K).st (zep rr xs p D K i) (a.tmps.getD t undef)
 done : ∀ i t,i < p → vis xs D K i = true → lo gops xs i = some t → zf g w (rr K).st (zbh rr i) (a.tmps.getD t undef)
 kp : K ≤ p
 before : ∀ i,i < K → eff xs i = true → D i = true
 raw : ∀ i,i < p → D i = true → vis xs D K i = false → Raw P gops xs rr w0 g w a i (B i)
 inj : ∀ i j,i < p → j < p → D i = true → vis xs D K i = false → D j = true → vis xs D K j = false → B i = B j → i = j
theorem zlp {D : Nat → Bool} {K i : Nat} (h : i ≠ K) : vis xs D (K + 1) i = vis xs D K i:=by
 unfold vis
 have : decide (i < K + 1) = decide (i < K):=by
  simp only [decide_eq_decide];omega
 rw [this]
theorem zfD {D : Nat → Bool} {K i : Nat} (h : eff xs K = false) : vis xs D (K + 1) i = vis xs D K i:=by
 by_cases e : i = K
 ·subst e
  unfold vis;simp [h]
 ·exact zlp e
theorem zHx {g g0 : G} {w w0 : World} {σ σ0 : zd} (R : Rel g w σ) (r : Ext g0 w0 σ0 g w σ) {b : Nat} {ty : TypeId} {arr : Array Value} {sz : Nat} {es : List (List C)} {kd : Mk} (x : arr.size = es.length * sz) (f : ∀ g w σ,zci g w σ arr sz es) (d : kd.ok sz es) (m : w.heap[b]? = some (.cells arr ty))
  (q : g.ow b = .no) (z : ∀ o,¬ g.N b o) (D : w0.heap.size ≤ b) :
  Ext g0 w0 σ0 (g.own σ.length b) w (σ ++ [.cells 0 sz es]) ∧ Rel (g.own σ.length b) w (σ ++ [.cells 0 sz es]) ∧
  (∀ v u,zf g w σ v u → zf (g.own σ.length b) w (σ ++ [.cells 0 sz es]) v u) ∧
  zf (g.own σ.length b) w (σ ++ [.cells 0 sz es]) (kd.v σ.length) (kd.u b):=by
 let g1 : G:={ g with ow:=zzd g.ow b (.ob σ.length) }
 have E : Rel g1 w σ:=zAw R rfl rfl rfl (fun c id _ h => by
  by_cases e : c = b
  ·subst e; rw [q] at h; cases h
  ·exact (zaQ g.ow _ e).trans h) (fun c t k _ h => by
  by_cases e : c = b
  ·subst e; rw [q] at h; cases h
  ·exact (zaQ g.ow _ e).trans h)
 have H1 : Ext g0 w0 σ0 g1 w σ:={ r with ow:=fun c p => (zaQ g.ow _ (by omega)).trans (r.ow c p) };have B : b < w.heap.size:=(yc.1 m).1
 have l : Ext g1 w σ (g.own σ.length b) w (σ ++ [.cells 0 sz es]):={
  os:=rfl
  tape:=rfl
  output:=rfl
  size:=ym _
  keeps:=fun _ _ h => ⟨h,rfl⟩
  len:=by simp
  shape:=fun id A sz len h => by
   obtain ⟨es,a,s⟩:=za2 h;have j:=zb a;exact .inl ⟨by unfold shapeOf; rw [yd j]; exact h,zaQ g.ρ _ (by omega),fun _ arr t y => ⟨arr,y,rfl⟩⟩
  map:=fun id es h => ⟨zaQ g.ρ _ (by have:=zb h; omega),es,by rw [yd (zb h)]; exact h⟩
  tok:=fun t k n h => by
   obtain ⟨sz,fr,a,s⟩:=zdi h;exact ⟨n,zd3 (by rw [yd (zb a)]; exact a) s,ym _,fun _ => rfl⟩
  tsz:=fun t sz h => by
   obtain ⟨fr,a⟩:=zfc h;exact zct (fr:=fr) (by rw [yd (zb a)]; exact a)
  ow:=fun _ _ => rfl
  new:=fun _ _ h _ _ => h
  frame:=fun _ _ _ => rfl }
 refine ⟨H1.trans l,⟨R.nb,fun id ob h => ?_⟩,fun v u h => l.zf _ _ (zhZ (g:=g) (g':=g1) rfl rfl rfl v u h),?_⟩
 ·by_cases j : id < σ.length
  ·rw [yd j] at h
   exact zdq l (zaQ g.ρ _ (by omega)) (fun _ => rfl) (fun c _ _ => ⟨rfl,rfl,fun _ h => h⟩) (E.ob id ob h)
  ·have i : id = σ.length:=by
    have:=zb h;simp at this;omega
   subst i;simp at h;subst h;exact fun _ => ⟨by simp [G.own],fun o => by simp [G.own]; exact z o,arr,ty,by simpa [G.own] using m,by omega,f _ _ _⟩
 ·cases kd with
  | ptr =>
    simp only [Mk.v,Mk.u,zf,zz,Nat.add_zero];exact ⟨0,sz,es.length,zu (zlG σ _),ym _,fun _ => by simp [G.own],_,rfl⟩
  | own n =>
    simp only [Mk.ok] at d;subst d;simp only [Mk.v,Mk.u,zf,zz];refine ⟨0,sz,es.length,zu (zlG σ _),ym _,fun _ => ⟨_,_,rfl,ym _,fun h => h,fun _ => ⟨by omega,fun _ => by simp [G.own],arr,ty,?_,by rw [Nat.zero_add]; omega⟩⟩,_,_,rfl⟩;simpa [G.own] using m
end
section
variable {P : Program} {κ : List Tmp} {nt : Nat} {gops : Array Go.Oper} {ps : List (Nat × Nat)} {xs : List Oper} {ms : List Nat} {p b l : Nat} {Cf : zai} {rr : Nat → R} {g0 : G} {w0 : World} {σ0 : zd}
theorem zrS {x : Oper} {q : Nat} (h : writes x = some q) : x.dst = .slot q:=by
 obtain ⟨d,op,a⟩:=x;cases d <;> simp [writes] at h;subst h;rfl
theorem zhD {x : Oper} {q : Nat} (h : x.dst = .slot q) : writes x = some q:=by
 obtain ⟨d,op,a⟩:=x;simp only at h;subst h;rfl
theorem znc {α : Type} {l : List α} (c : l.Nodup) {i j : Nat} {x : α} (a : l[i]? = some x) (b : l[j]? = some x) : i = j:=by
 induction l generalizing i j with
 | nil => simp at a
 | cons y l ih =>
   rw [List.nodup_cons] at c
   cases i with
   | zero =>
     cases j with
     | zero => rfl
     | succ j =>
       simp at a b;subst a;exact absurd (ye b) c.1
   | succ i =>
     cases j with
     | zero =>
       simp at a b;subst b;exact absurd (ye a) c.1
     | succ j =>
       simp at a b;rw [ih c.2 a b]
theorem ziU {x : Oper} (h : zyg x = true) : x.guard = none ∧ (x.dst = .loc ∨ ∃ q,x.dst = .slot q) ∧ ((∃ zero,x.op = .al zero []) ∨ ∃ zero n,x.op = .mks zero none n):=by
 unfold zyg at h;split at h
 all_goals first | exact ⟨rfl,.inl rfl,.inl ⟨_,rfl⟩⟩ | exact ⟨rfl,.inr ⟨_,rfl⟩,.inl ⟨_,rfl⟩⟩ | exact ⟨rfl,.inl rfl,.inr ⟨_,_,rfl⟩⟩ | cases h
theorem zFd {r r1 : R} {x : Oper} {zero : List C} (h : zyg x = true) (a : x.op = .al zero []) (b : step Cf r x = some r1) :
  r1 = (r.at (r.st ++ [.cells 0 zero.length [zero]])).put x.dst (.one (.ptr (r.st.length + 0) 0 0 0)):=by
 obtain ⟨c,_,_⟩:=ziU h;obtain ⟨d,op,e⟩:=x;simp only at c a;subst c a;simp only [step,zbm,Option.some.injEq] at b;rw [← b];simp [aal,tokens,zgZ,R.allocs,R.at]
theorem zED {r r1 : R} {x : Oper} {zero : List C} {n : X} (h : zyg x = true) (b : x.op = .mks zero none n) (a : step Cf r x = some r1) :
  ∃ kk m,r.get n = .one (.f (.lit (.int kk m))) ∧ 0 ≤ m ∧ m ≤ LIM ∧ r1 = (r.at (r.st ++ [.cells 0 zero.length (yl m.toNat zero)])).put x.dst (.one (.own r.st.length 0 0 m.toNat)):=by
 obtain ⟨c,_,_⟩:=ziU h;obtain ⟨d,op,g⟩:=x;simp only at c b;subst c b;simp only [step,zbm] at a;unfold zF2 at a;split at a
 ·rename_i e
  split at a
  ·rename_i hm
   injection a with a;exact ⟨_,_,e,hm.1,hm.2,a.symm⟩
  ·cases a
 ·contradiction
 ·cases a
theorem zu9 (b : ∀ i x,xs[i]? = some x → step Cf (rr i) x = some (rr (i + 1))) {K : Nat} (e : K < xs.length) (he : eff xs K = false) : (rr (K + 1)).st = (rr K).st :=
 zpy b (a:=K) 1 (by omega) fun k d c h => by
  have : k = K:=by omega
  subst this;unfold eff at he;simp [h] at he
theorem zDb (C : Chk2 P κ nt gops ps xs ms p) (U : ∀ i x,xs[i]? = some x → step Cf (rr i) x = some (rr (i + 1))) (u : (rr 0).env.length = κ.length) {D : Nat → Bool} {K : Nat} {B : Nat → Nat} {g : G} {w : World} {a : Act}
  (M : Mid2 P gops xs κ nt p rr g0 w0 σ0 D K B g w a) (I : K < p) (h : eff xs K = false ∨ D K = true) : ∃ g',Mid2 P gops xs κ nt p rr g0 w0 σ0 D (K + 1) B g' w a:=by
 have V : K < xs.length:=yj I C.w.le
 cases he : eff xs K with
 | false =>
   have n:=zu9 U V he
   have u : ∀ q,zep rr xs p D (K + 1) q = zep rr xs p D K q:=fun q => by
    unfold zep;split
    ·rw [zfD he]
    ·rfl
   refine ⟨g,⟨by rw [n]; exact M.ext,by rw [n]; exact M.rel,M.size,M.df,fun i t W => by rw [n,u]; exact M.slot i t W,fun i t m H W => by rw [n]; exact M.done i t m (by rw [← zfD he]; exact H) W,I,fun i m y => ?_,
    fun i m L H => M.raw i m L (by rw [← zfD he]; exact H),fun i j m hj r b J s => M.inj i j m hj r (by rw [← zfD he]; exact b) J (by rw [← zfD he]; exact s)⟩⟩
   by_cases e : i = K
   ·subst e; rw [he] at y; cases y
   ·exact M.before i (by omega) y
 | true =>
   have L : D K = true:=by
    rcases h with h | h
    ·rw [he] at h; cases h
    ·exact h
   have N : vis xs D K K = false:=(by simp [vis,he]);obtain ⟨⟨o,x,sz,es,arr,ty,t,kd,ho,hx,aE,E,hb,A,hz,S,aD,f⟩,Z,X,Q⟩:=M.raw K I L N;obtain ⟨hg,hd,_⟩:=ziU aE;obtain ⟨H1,R1,H,hp⟩:=zHx M.rel M.ext hz S aD hb Z X Q;have n : (rr (K + 1)).st = (rr K).st ++ [.cells 0 sz es]:=(by rw [f,zfH]; rfl);rw [← n] at H1 R1 H hp;have aF : K < gops.size:=(by rw [← C.len]; exact V);have l:=(C.pre_some I ho hx).1;rw [E] at l;have d : vis xs D (K + 1) K = true:=(by simp [vis,L]);refine ⟨_,⟨H1,R1,M.size,M.df,fun q t' c => ?_,fun i t' m b c => ?_,I,fun i m y => ?_,fun i m r b => ?_,fun i j m hj r b J s Y => ?_⟩⟩
   ·
    by_cases hw : wr xs p q = some K
    ·have aA:=zhc hw
     obtain ⟨_,x',z,aB⟩:=aA;rw [hx] at z;injection z with z;subst z;unfold zep;rw [hw];simp only [d,if_true]
     have O : x.dst = .slot q:=by
      exact zrS aB
     rw [O] at l;simp only [okD,beq_iff_eq] at l;rw [c] at l;injection l with l;subst l;rw [A]
     have hlen : q < (rr K).env.length:=by
      rw [(zhb C.w U K (yo I)).1,u];exact zb c
     have : (rr (K + 1)).env.getD q vun = kd.v (rr K).st.length:=by
      rw [f,O];simp [R.put,R.at,ya,hlen]
     rw [this];exact hp
    ·have : zep rr xs p D (K + 1) q = zep rr xs p D K q:=by
      unfold zep;split
      ·rename_i k hk
       rw [zlp (fun e => by subst e; exact hw hk)]
      ·rfl
     rw [this];exact H _ _ (M.slot q t' c)
   ·by_cases e : i = K
    ·subst e
     have hl : lo gops xs i = zbg o.dst x.dst:=(by unfold lo; rw [ho,hx]);rw [hl,E] at c;rcases hd with hd | ⟨q,hd⟩
     ·rw [hd] at c
      simp only [zbg,Option.some.injEq] at c;subst c;rw [A]
      have : zbh rr i = kd.v (rr i).st.length:=by
       unfold zbh;rw [f,hd];rfl
      rw [this];exact hp
     ·rw [hd] at c
      simp [zbg] at c
    ·rw [zlp e] at b
     exact H _ _ (M.done i t' m b c)
   ·by_cases e : i = K
    ·subst e; exact L
    ·exact M.before i (by omega) y
   ·have e : i ≠ K:=fun e => by subst e; rw [d] at b; cases b
    rw [zlp e] at b;have aC : B i ≠ B K:=fun Y => e (M.inj i K m I r b L N Y);obtain ⟨k1,k2,k3,k4⟩:=M.raw i m r b;exact ⟨k1,(zaQ g.ow _ aC).trans k2,k3,k4⟩
   ·have e1 : i ≠ K:=fun e => by subst e; rw [d] at b; cases b
    have e2 : j ≠ K:=fun e => by subst e; rw [d] at s; cases s
    rw [zlp e1] at b;rw [zlp e2] at s;exact M.inj i j m hj r b J s Y
def zzT (xs : List Oper) (p : Nat) (D : Nat → Bool) (K : Nat) : Prop:=K = p ∨ (eff xs K = true ∧ D K = false)
theorem zBW (C : Chk2 P κ nt gops ps xs ms p) (c : ∀ i x,xs[i]? = some x → step Cf (rr i) x = some (rr (i + 1))) (b : (rr 0).env.length = κ.length) {D : Nat → Bool} {B : Nat → Nat} {w : World} {a : Act} : ∀ (n K : Nat) (g : G),p - K = n →
  Mid2 P gops xs κ nt p rr g0 w0 σ0 D K B g w a → ∃ K' g',Mid2 P gops xs κ nt p rr g0 w0 σ0 D K' B g' w a ∧ zzT xs p D K'
 | 0,K,g,hn,M => ⟨K,g,M,.inl (by have:=M.kp; omega)⟩
 | n + 1,K,g,hn,M => by
   by_cases h : eff xs K = false ∨ D K = true
   ·obtain ⟨g',d⟩:=zDb C c b M (by omega) h
    exact zBW C c b n (K + 1) g' (by omega) d
   ·simp only [not_or,Bool.not_eq_false,Bool.not_eq_true] at h
    exact ⟨K,g,M,.inr h⟩
theorem zDH {D : Nat → Bool} {K j : Nat} (a : zzT xs p D K) (h : D j = true) (b : j < p) (he : eff xs j = true) : j ≠ K:=fun e => by
 subst e;rcases a with a | ⟨_,a⟩
 ·omega
 ·rw [h] at a; cases a
theorem Raw.ext {g g' : G} {w w' : World} {a n : Act} {σ σ' : zd} {i b : Nat} (h : Raw P gops xs rr w0 g w a i b) (H : Ext g w σ g' w' σ') (q : ∀ t,(∃ o,gops[i]? = some o ∧ o.dst = some t) → n.tmps.getD t undef = a.tmps.getD t undef) : Raw P gops xs rr w0 g' w' n i b:=by
 obtain ⟨⟨o,x,sz,es,arr,ty,t,kd,j,s,r,l,m,u,k⟩,e,d,f⟩:=h;have c : b < w.heap.size:=(yc.1 m).1;exact ⟨⟨o,x,sz,es,arr,ty,t,kd,j,s,r,l,(H.frame b c e).trans m,(q t ⟨o,j,l⟩).trans u,k⟩,(H.ow b c).trans e,fun o p => d o (H.new b o p c e),f⟩
def zof (gops : Array Go.Oper) (i : Nat) : Option Tmp:=(gops[i]?).bind (·.dst)
theorem zvm (C : Chk2 P κ nt gops ps xs ms p) (u : κ.Nodup) {i j : Nat} (r : i < p) (o : j < p) (m : i ≠ j) {t : Tmp} (l : zof gops i = some t) (n : zof gops j = some t) : False:=by
 have d : i < gops.size:=yj r C.p_le;have c : j < gops.size:=yj o C.p_le;have k : gops[i]? = some gops[i]:=yh d;have g : gops[j]? = some gops[j]:=yh c;have f : xs[i]? = some (xs[i]'(by rw [C.len]; exact d)):=yi (by rw [C.len]; exact d);have e : xs[j]? = some (xs[j]'(by rw [C.len]; exact c)):=yi (by rw [C.len]; exact c);have di:=(C.pre_some r k f).1;have dj:=(C.pre_some o g e).1;unfold zof at l n;rw [k] at l;rw [g] at n;simp only [Option.bind_some] at l n;rw [l] at di;rw [n] at dj
 cases b : (xs[i]'(by rw [C.len]; exact d)).dst with
 | no => rw [b] at di; simp [okD] at di
 | loc =>
   rw [b] at di
   cases a : (xs[j]'(by rw [C.len]; exact c)).dst with
   | no => rw [a] at dj; simp [okD] at dj
   | loc =>
     have e1 : lo gops xs i = some t:=(by unfold lo; rw [k,f]; simp [zbg,l,b]);have e2 : lo gops xs j = some t:=(by unfold lo; rw [g,e]; simp [zbg,n,a]);exact m (C.plan.apart i j t r o e1 e2)
   | slot q =>
     rw [a] at dj;simp only [okD,beq_iff_eq] at dj;simp only [okD,yb,yk] at di;have : t ∈ κ:=ye dj;simp [this] at di
 | slot q =>
   rw [b] at di;simp only [okD,beq_iff_eq] at di
   cases a : (xs[j]'(by rw [C.len]; exact c)).dst with
   | no => rw [a] at dj; simp [okD] at dj
   | loc =>
     rw [a] at dj;simp only [okD,yb,yk] at dj;have : t ∈ κ:=ye di;simp [this] at dj
   | slot q' =>
     rw [a] at dj;simp only [okD,beq_iff_eq] at dj;have s : q = q':=znc u di dj;subst s;rcases Nat.lt_or_gt_of_ne m with h | h
     ·exact (C.pair h o f e).2.1 q (zhD b) (zhD a)
     ·exact (C.pair h r e f).2.1 q (zhD a) (zhD b)
theorem zmV {a : Act} {d : Option Tmp} {u : Value} {t : Tmp} (h : d ≠ some t) : (a.put d u).tmps.getD t undef = a.tmps.getD t undef:=by
 cases d with
 | none => rfl
 | some t' =>
   simp only [Act.put,zis];rw [if_neg (fun e => h (by rw [e.1]))]
end
section
variable {P : Program} {κ : List Tmp} {nt : Nat} {gops : Array Go.Oper} {ps : List (Nat × Nat)} {xs : List Oper} {ms : List Nat} {p b l : Nat} {Cf : zai} {rr : Nat → R} {g0 : G} {w0 : World} {σ0 : zd}
theorem zEi (C : Chk2 P κ nt gops ps xs ms p) {D : Nat → Bool} {K j i : Nat} (a : zh8 gops D) (s : ∀ i ∈ zaF gops j,D i = true) (n : zzT xs p D K) (f : i < j) (q : j < p) {x y : Oper} (o : xs[i]? = some x) (r : xs[j]? = some y) (e : D i = true)
  (hu : zyg x = true → zuj xs gops j i y = true) : vis xs D K i = true:=by
 cases he : eff xs i with
 | false => simp [vis,e,he]
 | true =>
   have g:=zDH n e (by omega) he
   have m : i < K:=by
    rcases Nat.lt_trichotomy i K with h | h | h
    ·exact h
    ·exact absurd h g
    ·rcases n with n | ⟨c,b⟩
     ·omega
     ·have l : K < xs.length:=by have:=C.w.le; omega
      have k : xs[K]? = some xs[K]:=yi l;rcases (C.pair h (by omega) k o).2.2.1 c he with d | t
      ·have:=(C.pair f q o r).2.2.2 d (hu d) K h c
       have:=za7 a this s;rw [b] at this; cases this
      ·have:=za7 a t (a i e)
       rw [b] at this; cases this
   simp [vis,e,m]
theorem zrJ (C : Chk2 P κ nt gops ps xs ms p) (h : ∀ i x,xs[i]? = some x → step Cf (rr i) x = some (rr (i + 1))) (e : (rr 0).env.length = κ.length) (n : κ.Nodup) (m : ∀ t ∈ κ,t < nt) {D : Nat → Bool} {K j : Nat} {B : Nat → Nat} {g : G} {w : World} {a : Act}
  (s : j ≤ p) (f : Nat → Option Tmp) (o : ∀ i t,i < j → f i = some t → vis xs D K i = true ∧ lo gops xs i = some t) (M : Mid2 P gops xs κ nt p rr g0 w0 σ0 D K B g w a) :
  Fr κ ((yf j).reverse.map f) nt g w ⟨(yf j).reverse.map (zbh rr),zpG rr xs p D K,(rr K).st,b,l⟩ a:=by
 refine ⟨M.size,by simp [zpG,e],fun i t r => by simp only [znb C.w h]; exact M.slot i t r,fun d t hd _ => ?_,fun d t hd => ?_,n,m,M.df⟩
 ·have c : d < j:=by have:=zb hd; simpa using this
  rw [zkr f c] at hd;injection hd with hd;obtain ⟨q,k⟩:=o _ t (by omega) hd;simp only [ya,zkr (zbh rr) c,Option.getD_some];exact M.done _ t (by omega) q k
 ·have c : d < j:=by have:=zb hd; simpa using this
  rw [zkr f c] at hd;injection hd with hd;obtain ⟨_,k⟩:=o _ t (by omega) hd;exact zpY C.plan (by omega : j - 1 - d < p) k
theorem zqc {D : Nat → Bool} {K a j i : Nat} (h : (a = K ∧ eff xs j = false) ∨ (a = K + 1 ∧ j = K)) : vis xs (zbn D j) a i = if i = j then true else vis xs D K i:=by
 by_cases e : i = j
 ·subst e
  rw [if_pos rfl];rcases h with ⟨_,h⟩ | ⟨rfl,rfl⟩
  ·simp [vis,zbn,h]
  ·simp [vis,zbn]
 ·rw [if_neg e]
  have : zbn D j i = D i:=by simp [zbn,e]
  unfold vis;rw [this];rcases h with ⟨rfl,_⟩ | ⟨rfl,rfl⟩
  ·rfl
  ·have : decide (i < j + 1) = decide (i < j):=by
    simp only [decide_eq_decide];omega
   rw [this]
theorem zuc (C : Chk2 P κ nt gops ps xs ms p) (L : ∀ i x,xs[i]? = some x → step Cf (rr i) x = some (rr (i + 1))) (Q : (rr 0).env.length = κ.length) (aE : κ.Nodup) {D : Nat → Bool} {K n j : Nat} {B : Nat → Nat} {g g' : G} {w w' : World} {a : Act} {u : Value} {o : Go.Oper} {x : Oper} {v : V} {σ1 : zd}
  (M : Mid2 P gops xs κ nt p rr g0 w0 σ0 D K B g w a) (I : (n = K ∧ eff xs j = false) ∨ (n = K + 1 ∧ j = K)) (U : j < p) (aF : D j = false) (X : gops[j]? = some o) (W : xs[j]? = some x) (hv : rr (j + 1) = ((rr j).at σ1).put x.dst v)
  (H : Ext g w (rr K).st g' w' (rr n).st) (R1 : Rel g' w' (rr n).st)
  (F : Fr κ (zbg o.dst x.dst :: zga gops xs j) nt g' w' ((⟨(yf j).reverse.map (zbh rr),zpG rr xs p D K,(rr n).st,b,l⟩ : R).put x.dst v) (a.put o.dst u)) :
  Mid2 P gops xs κ nt p rr g0 w0 σ0 (zbn D j) n B g' w' (a.put o.dst u):=by
 have J : x.dst = .loc → zbh rr j = v:=fun h => by unfold zbh; rw [hv,h]; rfl
 have aG:=(C.pre_some U X W).1
 have aC : n ≤ p:=by
  rcases I with ⟨rfl,_⟩ | ⟨rfl,rfl⟩
  ·exact M.kp
  ·omega
 have A : ((⟨(yf j).reverse.map (zbh rr),zpG rr xs p D K,(rr n).st,b,l⟩ : R).put x.dst v).st = (rr n).st:=zfH _ _ _;have hold : ∀ i,i ≠ j → i < p → vis xs (zbn D j) n i = vis xs D K i:=fun i f _ => by rw [zqc I,if_neg f]
 have z : ∀ i,i ≠ j → i < p → ∀ t,zof gops i = some t → (a.put o.dst u).tmps.getD t undef = a.tmps.getD t undef:=fun i f aD t d => zmV fun e =>
  zvm C aE aD U f d (by unfold zof; rw [X]; exact e)
 refine ⟨M.ext.trans H,R1,F.size,F.df,fun q t d => ?_,fun i t f c d => ?_,aC,fun i f O => ?_,fun i f E c => ?_,fun i i' f N E c r m hB => ?_⟩
 ·have hf:=F.env q t d
  rw [A] at hf
  have e : ((⟨(yf j).reverse.map (zbh rr),zpG rr xs p D K,(rr n).st,b,l⟩ : R).put x.dst v).env.getD q vun = zep rr xs p (zbn D j) n q:=by
   by_cases hw : writes x = some q
   ·have hd:=zrS hw
    rw [hd];have hq : q < (rr 0).env.length:=(by rw [Q]; exact zb d);have aA : q < (rr j).env.length:=(by rw [(zhb C.w L j (yo U)).1]; exact hq);have aB:=zEa C.w U W hw;unfold zep;rw [aB];simp only [zqc I,if_true];rw [hv,hd];simp [R.put,R.at,ya,zpG,hq,aA]
   ·have e1 : ((⟨(yf j).reverse.map (zbh rr),zpG rr xs p D K,(rr n).st,b,l⟩ : R).put x.dst v).env.getD q vun = (zpG rr xs p D K).getD q vun:=by
     cases hd : x.dst with
     | no => rfl
     | loc => rfl
     | slot q' =>
       have s : q' ≠ q:=fun e => hw (by rw [← e]; exact zhD hd);simp only [R.put,ya,List.getElem?_set_ne s]
    rw [e1,znb C.w L];unfold zep;split
    ·rename_i k hk
     obtain ⟨k1,x',S,k3⟩:=zhc hk
     have s : k ≠ j:=fun e => by subst e; rw [W] at S; injection S with S; subst S; exact hw k3
     have : zbn D j k = D k:=(by simp [zbn,s]);rw [hold k s k1,this]
    ·rfl
  rw [e] at hf;exact hf
 ·by_cases e : i = j
  ·subst e
   have y : zbg o.dst x.dst = some t:=by
    unfold lo at d;rw [X,W] at d;exact d
   have hd : x.dst = .loc:=by
    unfold zbg at y;split at y
    ·rename_i h; exact h
    ·cases y
   have h0:=F.lc 0 t (by simp [y]) (by simp);rw [A] at h0;rw [J hd];rw [hd] at h0;simpa [R.put] using h0
  ·rw [hold i e f] at c
   have:=H.zf _ _ (M.done i t f c d)
   have Y : zof gops i = some t:=by
    unfold lo at d;unfold zof;split at d
    ·rename_i o' x' Z h2
     rw [Z];unfold zbg at d;split at d
     ·rename_i h3 _; injection d with d; subst d; exact h3
     ·cases d
    ·cases d
   rw [z i e f t Y];exact this
 ·by_cases e : i = j
  ·subst e; simp [zbn]
  ·have : zbn D j i = D i:=by simp [zbn,e]
   rw [this];rcases I with ⟨rfl,_⟩ | ⟨rfl,rfl⟩
   ·exact M.before i f O
   ·exact M.before i (by omega) O
 ·have e : i ≠ j:=fun e => by subst e; rw [zqc I,if_pos rfl] at c; cases c
  rw [hold i e f] at c;have r : D i = true:=by simpa [zbn,e] using E
  exact (M.raw i f r c).ext H fun t ⟨o',Z,h2⟩ => z i e f t (by unfold zof; rw [Z]; exact h2)
 ·have e : i ≠ j:=fun e => by subst e; rw [zqc I,if_pos rfl] at c; cases c
  have e' : i' ≠ j:=fun e => by subst e; rw [zqc I,if_pos rfl] at m; cases m
  rw [hold i e f] at c;rw [hold i' e' N] at m;exact M.inj i i' f N (by simpa [zbn,e] using E) c (by simpa [zbn,e'] using r) m hB
theorem zvh (C : Chk2 P κ nt gops ps xs ms p) (R : κ.Nodup) (aB : ∀ t ∈ κ,t < nt) {D : Nat → Bool} {K j : Nat} {B : Nat → Nat} {g : G} {w : World} {a : Act} {o : Go.Oper} {x : Oper}
  (M : Mid2 P gops xs κ nt p rr g0 w0 σ0 D K B g w a) (hj : j < p) (aJ : K < j) (he : eff xs j = true) (Y : zyg x = true) (ho : gops[j]? = some o) (hx : xs[j]? = some x) {t : Tmp} (f : o.dst = some t)
  {sz : Nat} {es : List (List Go.A.C)} {arr : Array Value} {ty : TypeId} {kd : Mk} (aF : arr.size = es.length * sz) (S : ∀ g w σ,zci g w σ arr sz es) (aG : kd.ok sz es) (N : rr (j + 1) = ((rr j).at ((rr j).st ++ [.cells 0 sz es])).put x.dst (kd.v (rr j).st.length)) :
  ∃ g' B',Mid2 P gops xs κ nt p rr g0 w0 σ0 (zbn D j) K B' g' (w.alloc (.cells arr ty)) (a.put o.dst (kd.u w.heap.size)):=by
 obtain ⟨U,I,_⟩:=ziU Y;obtain ⟨k,_,hc,_⟩:=C.pre_some hj ho hx
 have L : t < nt ∧ (t ∈ κ → ∃ q,x.dst = .slot q ∧ κ[q]? = some t):=by
  rw [f] at k;rcases I with I | ⟨q,I⟩
  ·rw [I] at k
   simp only [okD,yb,yk,decide_eq_true_eq] at k;exact ⟨k.2,fun h => absurd h (by simpa using k.1)⟩
  ·rw [I] at k
   simp only [okD,beq_iff_eq] at k;exact ⟨aB t (ye k),fun _ => ⟨q,I,k⟩⟩
 let ob : Obj:=.cells arr ty
 let g' : G:={ g with ow:=zzd g.ow w.heap.size .no }
 have H : Ext g w (rr K).st g' (w.alloc ob) (rr K).st:=by
  have:=Ext.alloc M.rel ob g' (fun _ _ => rfl) (fun _ _ _ _ => rfl) (fun b hb => zaQ g.ow _ (by omega)) (fun _ _ _ => Iff.rfl) [];simpa using this
 have R1 : Rel g' (w.alloc ob) (rr K).st:=⟨fun b i h => by rw [size_alloc]; have:=M.rel.nb b i h; omega,fun id Q h => zdq H rfl (fun _ => rfl) (fun b hb _ => ⟨heap_alloc_old w ob hb,zaQ g.ow _ (by omega),fun _ h => h⟩) (M.rel.ob id Q h)⟩;refine ⟨g',zzd B j w.heap.size,?_⟩;have V : vis xs (zbn D j) K j = false:=by simp [vis,zbn,he]; omega
 have hold : ∀ i,i ≠ j → vis xs (zbn D j) K i = vis xs D K i:=fun i l => by simp [vis,zbn,l]
 have J : ∀ i,i ≠ j → i < p → ∀ r,zof gops i = some r → ∀ u,(a.put o.dst u).tmps.getD r undef = a.tmps.getD r undef:=fun i l aE r ht u => zmV fun e =>
  zvm C R aE hj l ht (by unfold zof; rw [ho]; exact e)
 have s : ∀ i,i < p → D i = true → vis xs D K i = false → B i < w.heap.size:=fun i l y d => by
  obtain ⟨⟨_,_,_,_,_,_,_,_,_,_,_,_,h7,_⟩,_⟩:=M.raw i l y d;exact (yc.1 h7).1
 refine ⟨M.ext.trans H,R1,by simp [Act.put,f,M.size],by simp [Act.put,f,M.df],fun q r c => ?_,fun i r l d c => ?_,M.kp,fun i l aI => ?_,fun i l y d => ?_,fun i O l X y d n m Z => ?_⟩
 ·by_cases hw : writes x = some q
  ·have aC:=zEa C.w hj hx hw
   unfold zep;rw [aC];simp only [V,Bool.false_eq_true,if_false];have : zbn D j j = true:=(by simp [zbn]);rw [this];simp only [if_true,vun,zf,zz]
  ·have e1 : zep rr xs p (zbn D j) K q = zep rr xs p D K q:=by
    unfold zep;split
    ·rename_i k' hk
     obtain ⟨_,x',k2,k3⟩:=zhc hk
     have W : k' ≠ j:=fun e => by subst e; rw [hx] at k2; injection k2 with k2; subst k2; exact hw k3
     have : zbn D j k' = D k':=(by simp [zbn,W]);rw [hold k' W,this]
    ·rfl
   rw [e1]
   have e2 : o.dst ≠ some r:=fun e => by
    rw [f] at e;injection e with e;subst e;obtain ⟨q',aH,aD⟩:=L.2 (ye c);have:=znc R aD c;subst this;exact hw (zhD aH)
   rw [zmV e2];exact H.zf _ _ (M.slot q r c)
 ·have e : i ≠ j:=fun e => by subst e; rw [V] at d; cases d
  rw [hold i e] at d
  have aA : zof gops i = some r:=by
   unfold lo at c;unfold zof;split at c
   ·rename_i Q x' U I
    rw [U];unfold zbg at c;split at c
    ·rename_i h3 _; injection c with c; subst c; exact h3
    ·cases c
   ·cases c
  rw [J i e l r aA];exact H.zf _ _ (M.done i r l d c)
 ·have : i ≠ j:=by omega
  have h0 : zbn D j i = D i:=by simp [zbn,this]
  rw [h0];exact M.before i l aI
 ·by_cases e : i = j
  ·subst e
   rw [zhJ];refine ⟨⟨o,x,sz,es,arr,ty,t,kd,ho,hx,Y,f,zbu w ob,?_,aF,S,aG,N⟩,zhJ g.ow _ _,fun Q hN => ?_,M.ext.size⟩
   ·rw [f]
    simp [Act.put,M.size,L.1]
   ·have:=M.rel.nb _ Q hN
    omega
  ·rw [hold i e] at d
   have n : D i = true:=(by simpa [zbn,e] using y);rw [zaQ B _ e];exact (M.raw i l n d).ext H fun r ⟨Q,U,I⟩ => J i e l r (by unfold zof; rw [U]; exact I) _
 ·by_cases e : i = j
  ·by_cases z : O = j
   ·rw [e,z]
   ·subst e
    rw [hold O z] at m;have E : D O = true:=(by simpa [zbn,z] using n);have:=s O X E m;rw [zhJ,zaQ B _ z] at Z;omega
  ·rw [hold i e] at d
   have E : D i = true:=(by simpa [zbn,e] using y);have U:=s i l E d
   by_cases z : O = j
   ·subst z
    rw [zhJ,zaQ B _ e] at Z;omega
   ·rw [hold O z] at m
    rw [zaQ B _ e,zaQ B _ z] at Z;exact M.inj i O l X E d (by simpa [zbn,z] using n) m Z
theorem zDB (C : Chk2 P κ nt gops ps xs ms p) (Y : ∀ i x,xs[i]? = some x → step Cf (rr i) x = some (rr (i + 1))) (N : κ.Nodup) (J : ∀ t ∈ κ,t < nt) {D : Nat → Bool} {K j : Nat} {B : Nat → Nat} {g : G} {w : World} {a : Act} {o : Go.Oper} {x : Oper} {next : Act → World → Prop} {Q : Exit → Act → World → Prop} {r' : R}
  (M : Mid2 P gops xs κ nt p rr g0 w0 σ0 D K B g w a) (hj : j < p) (W : K < j) (he : eff xs j = true) (h : zyg x = true) (ho : gops[j]? = some o) (O : xs[j]? = some x)
  (F : Fr κ (zga gops xs j) nt g w r' a) (L : ∀ y ∈ zfu x,r'.get y = (rr j).get y)
  (k : ∀ g' w' u B',Mid2 P gops xs κ nt p rr g0 w0 σ0 (zbn D j) K B' g' w' (a.put o.dst u) → next (a.put o.dst u) w') : o.wp P a w next Q:=by
 obtain ⟨h1,h2,b⟩:=ziU h;obtain ⟨E,_,f,_⟩:=C.pre_some hj ho O
 obtain ⟨t,v⟩ : ∃ t,o.dst = some t:=by
  cases hd : o.dst with
  | some t => exact ⟨t,rfl⟩
  | none =>
    rw [hd] at E;rcases h2 with h2 | ⟨q,h2⟩ <;> rw [h2] at E <;> simp [okD] at E
 rcases b with ⟨zero,b⟩ | ⟨zero,n,b⟩
 ·have hs:=zFd h b (Y j x O)
  rw [b] at f;simp only [znx] at f;split at f
  ·rename_i ty aF
   obtain ⟨X,hz,r,_⟩:=zmp f;obtain ⟨i,z,H,k2,k3⟩:=zdN hz;have aA : z.cells = X.toArray:=(by rw [← k3]);obtain ⟨s,q2⟩:=zaE (g:=g) (w:=w) (σ:=[]) r;have hl : X.length = zero.length:=zJ s
   obtain ⟨g',B',M'⟩:=zvh (sz:=zero.length) (es:=[zero]) (arr:=X.toArray) (ty:=ty) (kd:=.ptr) C N J M hj W he h ho O v (by simp [hl]) (fun g w σ => by
    obtain ⟨d,A⟩:=zaE (g:=g) (w:=w) (σ:=σ) r
    exact znZ d A) rfl hs
   refine zm8 (u:=.pointer (some ⟨w.heap.size,0,none⟩)) (w':=w.alloc (.cells X.toArray ty)) ?_ (k g' _ _ B' M');unfold execOp;simp only [aF];simp [Instr.alloc,zdF (w:=w) H k2,newVar,newRow,aA]
  ·cases f
 ·obtain ⟨kk,m,hv,aC,aE,hs⟩:=zED h b (Y j x O)
  have aD:=L n (by rw [show zfu x = opX x.op ++ _ from rfl,b]; simp [opX]);rw [b] at f;simp only [znx] at f;split at f
  ·rename_i t' l c aB
   simp only [yb,beq_iff_eq] at f;obtain ⟨⟨rfl,s⟩,q2⟩:=f;split at s
   ·rename_i e ht
    split at s
    ·rename_i i hi
     simp only [yb,decide_eq_true_eq] at s;obtain ⟨⟨h3,h4⟩,Z⟩:=s;split at Z
     ·rename_i X hz
      simp only [yb,beq_iff_eq] at Z;obtain ⟨⟨h6,h7⟩,_⟩:=Z;obtain ⟨i',z,H,k2,k3⟩:=zdN hz;rw [hi] at H;injection H with H;subst H;subst k3;have r : z.cells.size = i.size:=by simpa using h6
      have I : zero.length = i.size:=by
       obtain ⟨d,_⟩:=zaE (g:=g) (w:=w) (σ:=[]) h7;rw [← zJ d];exact h6
      have V:=F.get q2;rw [aD,hv] at V;obtain ⟨ex,_⟩:=zQ V
      have S : (execOp a.eval o).run P w = .ok (.value (.slice (some ⟨w.heap.size,0,none⟩) m.toNat m.toNat)) (w.alloc (.cells (madeCells z.cells (m.toNat * i.size)).toList.toArray e)):=by
       unfold execOp;simp only [aB,ex,Sem.run_bind,zp7 (P:=P) (w:=w) ht hi k2 aC aE h3,Result.andThen_ok,Sem.run_pure]
      have U : ∀ g w σ,zci g w σ (madeCells z.cells (m.toNat * i.size)).toList.toArray zero.length (yl m.toNat zero):=fun g w σ => by
       obtain ⟨d,A⟩:=zaE (g:=g) (w:=w) (σ:=σ) h7;have:=zkz (g:=g) (w:=w) (σ:=σ) (es:=yl m.toNat zero) r h4 (fun e he => by rw [(List.mem_replicate.1 he).2]; exact d) A;rw [List.length_replicate] at this;rw [Array.toArray_toList,I];exact this
      obtain ⟨g',B',M'⟩:=zvh (sz:=zero.length) (es:=yl m.toNat zero) (arr:=(madeCells z.cells (m.toNat * i.size)).toList.toArray) (ty:=e) (kd:=.own m.toNat) C N J M hj W he h ho O v (by simp [size_madeCells,I]) U (by simp [Mk.ok]) hs;exact zm8 S (k g' _ _ B' M')
     ·cases Z
    ·cases s
   ·cases s
  ·cases f
end
end Go.A

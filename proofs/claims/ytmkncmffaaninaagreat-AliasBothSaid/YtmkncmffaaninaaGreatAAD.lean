/- A part of the proof of AliasBoth. Conditions: none. -/
import Derived.Test.YtmkncmffaaninaaGreatAAC
import Derived.Deep.MidRow
import Derived.Laws.AppendOwn
import Derived.Laws.MakeOwn
set_option linter.all false
open Option renaming map_eq_some_iff → ya,bind_eq_some_iff → ye,getD_some → yk,map_some → yn
open List renaming getElem?_append_left → yb,getElem?_eq_getElem → yc,getElem?_range → yf,getElem?_drop → yg,getElem?_map → yi,getElem?_take → yj,getElem_mem → yo,replicate → yp,mem_cons → yq,map_cons → yr,range → yu
open Nat renaming le_refl → yd,add_assoc → ym,zero_add → yt,add_mul → yv
open Array renaming getD_eq_getD_getElem? → yh
open Bool renaming and_eq_true → yl
namespace Go.A
section
variable {P : Program} {κ : List Tmp} {loc : List (Option Tmp)} {nt : Nat} {g : G} {w : World} {r r' : R} {a : Act} {o : Go.Oper} {d : D} {next : Act → World → Prop} {Q : Exit → Act → World → Prop}
theorem zuY {v : V} {u : Value} {n : Nat} {σ : zb} (a : ze g w σ v u) (h : zzz v = some n) : ∃ k,u = .int k (n : Int):=by
 unfold zzz at h;split at h
 ·rename_i k m
  split at h
  ·injection h with h
   obtain ⟨e,_⟩:=zH a;exact ⟨k,by rw [e,← h,Int.toNat_of_nonneg (by assumption)]⟩
  ·cases h
 ·cases h
theorem run_sliceBound {k : IntKind} {n y : Nat} (c : BoundsCode) (h : n ≤ y) : (Instr.sliceBound (.int k n) y c).run P w = .ok n w:=by
 have a : (n : Int) ≤ (y : Int):=by omega
 simp [Instr.sliceBound,asIntOf,a]
theorem zmc (b : Bool) {len cap lo e : Nat} {f c a : Option Value} (d : (f = none ∧ lo = 0) ∨ ∃ k,f = some (.int k lo)) (g : (c = none ∧ a = none ∧ e = len) ∨ ∃ k,c = some (.int k e))
  (j : a = none ∨ a = c) (i : lo ≤ e) (h : e ≤ cap) :
  (Instr.sliceBounds b len cap f c a).run P w = .ok (lo,e,if a.isSome then e else cap) w:=by
 rcases j with rfl | rfl
 ·rcases g with ⟨rfl,_,rfl⟩ | ⟨k,rfl⟩
  ·rcases d with ⟨rfl,rfl⟩ | ⟨l,rfl⟩
   ·simp [Instr.sliceBounds]
   ·simp [Instr.sliceBounds,run_sliceBound _ i]
  ·rcases d with ⟨rfl,rfl⟩ | ⟨l,rfl⟩
   ·simp [Instr.sliceBounds,run_sliceBound _ h]
   ·simp [Instr.sliceBounds,run_sliceBound _ i,run_sliceBound _ h]
 ·rcases g with ⟨rfl,_,rfl⟩ | ⟨k,rfl⟩
  ·rcases d with ⟨rfl,rfl⟩ | ⟨l,rfl⟩
   ·simp [Instr.sliceBounds]
   ·simp [Instr.sliceBounds,run_sliceBound _ i]
  ·rcases d with ⟨rfl,rfl⟩ | ⟨l,rfl⟩
   ·simp [Instr.sliceBounds,run_sliceBound _ h,run_sliceBound _ (yd e)]
   ·simp [Instr.sliceBounds,run_sliceBound _ i,run_sliceBound _ h,run_sliceBound _ (yd e)]
theorem zsc {t e : TypeId} {len cap lo d sz : Nat} {ad : Option Addr} {c b a : Option Value} (o : P.underlying t = some (.slice e)) (i : zgf P e = some sz) (l : (c = none ∧ lo = 0) ∨ ∃ k,c = some (.int k lo)) (f : (b = none ∧ a = none ∧ d = len) ∨ ∃ k,b = some (.int k d))
  (j : a = none ∨ a = b) (n : lo ≤ d) (m : d ≤ cap) :
  (Instr.sliceAt t (.slice ad len cap) c b a).run P w = .ok (.slice (if (if a.isSome then d else cap) = lo then ad else ad.map (·.add (lo * sz))) (d - lo) ((if a.isSome then d else cap) - lo)) w:=by
 unfold zgf at i
 cases h : P.info? e with
 | none => simp [h] at i
 | some inf =>
   have g : inf.size = sz:=(by simpa [h] using i);simp [Instr.sliceAt,Instr.slice,run_underlying o,zmc (w:=w) (P:=P) true l f j n m,sizeOf,typeInfo,h,g]
theorem zq9 {N : zeb} {xs : List (List Fz)} {ad : Option Addr} {c lo d m sz : Nat} (h : rep w N (.sl xs) (.slice ad xs.length c)) (g : ∀ e ∈ xs,e.length = sz) (u : lo ≤ d) (p : d ≤ xs.length) (hm : d ≤ m) :
  rep w N (.sl ((xs.take d).drop lo)) (.slice (if m = lo then ad else ad.map (·.add (lo * sz))) (d - lo) (m - lo)):=by
 have hlen : ((xs.take d).drop lo).length = d - lo:=by simp; omega
 simp only [rep] at h ⊢;obtain ⟨s,t,f,l,e2,r,n⟩:=h;injection l with l _ _;subst l;rw [hlen];refine ⟨_,_,sz,rfl,by omega,zcT fun e he => g e (List.mem_of_mem_take (List.mem_of_mem_drop he)),?_⟩
 by_cases v : lo = d
 ·left
  exact List.eq_nil_of_length_eq_zero (by omega)
 ·right
  have k : m ≠ lo:=by omega
  rw [if_neg k];rcases n with rfl | ⟨b,q,rfl,n⟩
  ·simp at p; omega
  ·have j : f = sz:=by
    have o : 0 < xs.length:=(by omega);rw [← zba r (yc o)];exact g _ (yo o)
   subst j;refine ⟨b,q + lo * f,by simp [zaf],zdI fun i e a => ?_⟩;rw [yg,yj] at a;split at a
   ·have:=zda n a
    rwa [yv,← ym] at this
   ·cases a
theorem zoV {b : Option Go.Operand} {x : Option X} {c n : Nat} (i : ∀ y,x = some y → ∃ y',b = some y' ∧ ze g w r.st (r.get y) (a.eval y')) (d : x = none → b = none) (h : bound r c x = some n) :
  (b.map a.eval = none ∧ n = c) ∨ ∃ k,b.map a.eval = some (.int k n):=by
 cases x with
 | none => simp [bound] at h; left; simp [d rfl,h]
 | some y =>
   obtain ⟨y',e,f⟩:=i y rfl;obtain ⟨k,j⟩:=zuY f h;right;exact ⟨k,by simp [e,j]⟩
theorem zl7 {f : Nat → Nat → Option V} {x y : Option Nat} {v : V} (h : two f x y = some v) : ∃ m n,x = some m ∧ y = some n ∧ f m n = some v:=by
 unfold two at h;split at h
 ·exact ⟨_,_,rfl,rfl,h⟩
 ·cases h
theorem zir {sz : Nat} : ∀ {xs : List (List Fz)},zpv sz xs = true → ∀ e ∈ xs,e.length = sz
 | [],_,e,he => by simp at he
 | x :: xs,h,e,he => by
   simp only [zpv,yl,decide_eq_true_eq] at h;rcases yq.1 he with rfl | he
   ·exact h.1
   ·exact zir h.2 e he
def Opt (g : G) (w : World) (r : R) (a : Act) (x : Option Operand) (y : Option X) : Prop:=(∀ z,y = some z → ∃ z',x = some z' ∧ ze g w r.st (r.get z) (a.eval z')) ∧ (y = none → x = none)
theorem zwn {t e : TypeId} {sz : Nat} {x : Operand} {lo C q : Option Operand} {p i : Option X} {d : Bool} (S : o.op = .slice t x lo C q) (ht : P.underlying t = some (.slice e)) (W : zgf P e = some sz)
  (H : Opt g w r a lo p) (D : Opt g w r a C i) (A : (q = none ∧ d = false) ∨ (d = true ∧ i.isSome = true ∧ q.map a.eval = C.map a.eval))
  {O v : V} (K : ze g w r.st O (a.eval x)) (h : zBX r sz p i d O = some v) :
  ∃ u,(execOp a.eval o).run P w = .ok (.value u) w ∧ ze g w r.st v u:=by
 have key : ∀ {ad : Option Addr} {len cap l h' : Nat},a.eval x = .slice ad len cap → bound r 0 p = some l → bound r len i = some h' → l ≤ h' → h' ≤ cap →
   ∃ m,h' ≤ m ∧ (d = false → m = cap) ∧ (execOp a.eval o).run P w = .ok (.value (.slice (if m = l then ad else ad.map (·.add (l * sz))) (h' - l) (m - l))) w:=by
  intro ad len cap l h' ex z y b Q;have b1:=zoV (a:=a) H.1 H.2 z;have b2:=zoV (a:=a) D.1 D.2 y
  have bb : (C.map a.eval = none ∧ q.map a.eval = none ∧ h' = len) ∨ ∃ k,C.map a.eval = some (.int k h'):=by
   rcases b2 with ⟨b2,b3⟩ | b2
   ·rcases A with ⟨rfl,_⟩ | ⟨_,aA,em⟩
    ·exact .inl ⟨b2,rfl,b3⟩
    ·exact .inl ⟨b2,by rw [em]; exact b2,b3⟩
   ·exact .inr b2
  have bm : q.map a.eval = none ∨ q.map a.eval = C.map a.eval:=by
   rcases A with ⟨rfl,_⟩ | ⟨_,_,em⟩
   ·exact .inl rfl
   ·exact .inr em
  have G:=zsc (P:=P) (w:=w) (ad:=ad) ht W b1 bb bm b Q;refine ⟨if (q.map a.eval).isSome = true then h' else cap,?_,?_,?_⟩
  ·split <;> omega
  ·intro U
   rcases A with ⟨rfl,_⟩ | ⟨h,_⟩
   ·simp
   ·rw [U] at h; cases h
  ·unfold execOp
   simp only [S,ex,Sem.run_bind,G,Result.andThen_ok,Sem.run_pure]
 unfold zBX at h;split at h
 ·rename_i xs
  obtain ⟨l,h',z,y,b⟩:=zl7 h;unfold zxy at b;split at b
  ·rename_i f
   injection b with b;subst b;have B:=zpx K;obtain ⟨ad,c,s,e2⟩:=zhp B;rw [s] at B;obtain ⟨m,I,_,E⟩:=key s z y f.1 (by omega);refine ⟨_,E,?_⟩;simp only [vsl,ze,zq];exact zq9 B (zir f.2.2) f.1 f.2.1 I
  ·cases b
 ·rename_i xs
  obtain ⟨l,h',z,y,b⟩:=zl7 h;unfold zxy at b;split at b
  ·rename_i f
   injection b with b;subst b;have B:=zqh K;obtain ⟨ad,c,s,e2⟩:=zhp B;rw [s] at B;obtain ⟨m,I,_,E⟩:=key s z y f.1 (by omega);refine ⟨_,E,?_⟩;simp only [vsl,ze,zq];exact zq9 B (zir f.2.2) f.1 f.2.1 I
  ·cases b
 ·rename_i id M N n
  split at h
  ·cases h
  ·rename_i L
   obtain ⟨l,h',z,y,b⟩:=zl7 h;unfold zwh at b;split at b
   ·rename_i f
    injection b with b;subst b;obtain ⟨c1,c2,c3⟩:=f
    cases j : r.st[id]? with
    | none => simp [j] at c3
    | some ob =>
      simp [j] at c3;obtain ⟨es,rfl⟩:=zik c3;obtain ⟨ad,c,s,e2,Y,e4⟩:=zeG K j;obtain ⟨m,I,Z,E⟩:=key s z y c1 (by omega);have hm:=Z (by simpa using L);subst hm;refine ⟨_,E,?_⟩;simp only [ze,zq];refine ⟨M,sz,es.length,zo j,yd _,fun _ => ⟨_,_,rfl,by omega,fun J => by have:=Y J; omega,fun J => ?_⟩,_,_,rfl⟩;obtain ⟨f1,f2,arr,ty,f3,f4⟩:=e4 J;refine ⟨by omega,fun R => ?_,arr,ty,f3,?_⟩
      ·rw [if_neg (by omega),f2 (by omega)]
       simp [zaf,yv]
      ·have : (N + l + (m - l)) = N + m:=by omega
       rw [this]; exact f4
   ·cases b
 ·cases h
theorem zhP {σ : zb} : ∀ {vs : List V} {us : List Value},zv g w σ vs us → ∀ {i : Nat} {v : V},vs[i]? = some v → ∃ u,us[i]? = some u ∧ ze g w σ v u
 | [],_,_,i,v,h => by simp at h
 | x :: vs,us,hr,i,v,h => by
   simp only [zv] at hr;obtain ⟨u,us',rfl,a,b⟩:=hr
   cases i with
   | zero => simp at h; subst h; exact ⟨u,by simp,a⟩
   | succ i => simpa using zhP b (i:=i) (v:=v) (by simpa using h)
theorem zxu {x : Operand} {i : Nat} (k : o.op = .extract x i) {c v : V} (d : ze g w r.st c (a.eval x)) (h : zCI i c = some v) :
  ∃ u,(execOp a.eval o).run P w = .ok (.value u) w ∧ ze g w r.st v u:=by
 unfold zCI at h;split at h
 ·simp only [ze] at d
  obtain ⟨us,e,f⟩:=d;obtain ⟨u,hu,j⟩:=zhP f h;refine ⟨u,?_,j⟩;have b : us[i]? = some u:=by simpa using hu
  unfold execOp;simp [k,e,Instr.extract,b]
 ·cases h
theorem zvM {x : Operand} (c : o.op = .nilCheck x) {d v : V} (b : ze g w r.st d (a.eval x)) (h : zCO d = some v) :
  ∃ u,(execOp a.eval o).run P w = .ok (.value u) w ∧ ze g w r.st v u:=by
 unfold zCO at h;split at h
 ·injection h with h
  subst h;refine ⟨a.eval x,?_,b⟩;simp only [ze,zq] at b;obtain ⟨_,_,_,_,_,_,ad,e⟩:=b;unfold execOp;simp [c,e]
 ·injection h with h
  subst h;refine ⟨a.eval x,?_,b⟩;simp only [ze,zq] at b;obtain ⟨_,_,e,_⟩:=b;unfold execOp;simp [c,e]
 ·injection h with h
  subst h;refine ⟨a.eval x,?_,b⟩;simp only [ze,zq] at b;obtain ⟨_,_,e,_⟩:=b;unfold execOp;simp [c,e]
 ·cases h
theorem zxW {b : Builtin} {isMax : Bool} {x y : Operand} {c : Go.Call} (j : o.op = .call c) (i : c.callee = .builtin b) (e : b = if isMax then .max else .min) (d : c.args = #[x,y])
  {f l v : V} (s : ze g w r.st f (a.eval x)) (q : ze g w r.st l (a.eval y)) (h : zCH isMax f l = some v) :
  ∃ u,(execOp a.eval o).run P w = .ok (.value u) w ∧ ze g w r.st v u:=by
 unfold zCH at h;split at h
 ·rename_i k m z n
  split at h
  ·rename_i t
   subst t;injection h with h;subst h;obtain ⟨ex,_⟩:=zH s;obtain ⟨p,_⟩:=zH q;cases isMax
   ·simp at e
    subst e;refine ⟨.int k (min m n),?_,zI rfl⟩;unfold execOp;simp [j,resolve,i,d,ex,p,invoke,builtin,Builtin.min_,Builtin.min2];omega
   ·simp at e
    subst e;refine ⟨.int k (max m n),?_,zI rfl⟩;unfold execOp;simp [j,resolve,i,d,ex,p,invoke,builtin,Builtin.max_,Builtin.max2];omega
  ·cases h
 ·cases h
end
section
variable {P : Program} {κ : List Tmp} {loc : List (Option Tmp)} {nt : Nat} {g : G} {w : World} {r r' : R} {a : Act} {o : Go.Oper} {d : D} {next : Act → World → Prop} {Q : Exit → Act → World → Prop}
theorem zxS {σ : zb} {id b i : Nat} {e : List C} (h : σ.elem id b i = some e) : ∃ sz es,σ[id]? = some (.cells b sz es) ∧ es[i]? = some e:=by
 unfold zb.elem at h;rw [ye] at h;obtain ⟨g,f,a⟩:=h;unfold Ob.elem at a;split at a
 ·rename_i c sz es
  split at a
  ·rename_i d
   subst d;exact ⟨sz,es,f,a⟩
  ·cases a
 ·cases a
theorem zo2 (K : Rel g w r.st) {id n i off : Nat} {e : List C} {u : Value} (he : r.st.elem id n i = some e) (z : ze g w r.st (.one (.ptr id n i off)) u) :
  ∃ b o us,u = .pointer (some ⟨b,o + off,none⟩) ∧ us.length = e.length ∧ zm g w r.st e us ∧ (∀ v ∈ us,v.oneCell' = true) ∧ ∀ j v,us[j]? = some v → w.cell? ⟨b,o + j,none⟩ = some v:=by
 obtain ⟨sz,es,A,s⟩:=zxS he;have p : es ≠ []:=fun h => by subst h; simp at s
 obtain ⟨_,_,arr,t,D,M,I⟩:=K.ob id _ A p;simp only [ze,zq] at z;obtain ⟨v0,J,len,k,L,E,_⟩:=z;rw [zo A] at k;injection k with k;injection k with e1 k;injection k with e2 e3;subst e1 e2 e3;have hu:=E rfl;obtain ⟨B,a⟩:=I i e s;refine ⟨g.ρ id,i * sz,(yu e.length).map fun j => arr.getD (i * sz + j) undef,hu,by simp,zic (by simp) fun j c v y d => ?_,fun v d => ?_,fun j v d => ?_⟩
 ·obtain ⟨x,l,H,_⟩:=a j c y
  rw [yi,yf (za y)] at d;simp only [yn,Option.some.injEq] at d;rw [← d];simp only [yh,l,yk];exact H
 ·rw [List.mem_map] at d
  obtain ⟨j,q,rfl⟩:=d;rw [List.mem_range] at q;obtain ⟨x,l,_,G⟩:=a j _ (yc q);simp only [yh,l,yk];exact G
 ·rw [yi] at d
  have q:=d
  cases m : (yu e.length)[j]? with
  | none => rw [m] at d; cases d
  | some j' =>
    have f:=za m;simp at f;rw [yf f] at m;injection m with m;subst m;rw [yf f] at d;simp only [yn,Option.some.injEq] at d;obtain ⟨x,l,_,_⟩:=a j _ (yc f);rw [zfQ D,l,← d];simp only [yh,l,yk]
theorem zhV {t : TypeId} {b : Bool} (h : ziB P t = some b) : (isAgg t).run P w = .ok b w:=by
 unfold ziB at h
 cases hu : P.underlying t with
 | none => simp [hu] at h
 | some de =>
   simp [hu] at h;subst h;unfold isAgg;rw [Sem.run_bind,run_underlying hu w];cases de <;> rfl
theorem ziI {t : TypeId} {ad : Addr} {v : Value} (h : ziB P t = some false) (a : w.cell? ad = some v) : (Instr.loadAt t (.pointer (some ad))).run P w = .ok v w:=by
 simp [Instr.loadAt,Instr.sureAddr,loadVar,zhV (w:=w) h,a]
theorem zfJ {t : TypeId} {b o n : Nat} {vs : List Value} (h : ziB P t = some true) (c : zgf P t = some n) (e : vs.length = n) (g : ∀ j v,vs[j]? = some v → w.cell? ⟨b,o + j,none⟩ = some v) :
  (Instr.loadAt t (.pointer (some ⟨b,o,none⟩))).run P w = .ok (.agg vs.toArray) w:=by
 have f : (loadCells ⟨b,o,none⟩ n).run P w = .ok vs.toArray w:=by
  rw [← e];exact run_loadCells_list (P:=P) w ⟨b,o,none⟩ vs (fun j v i => by rw [zaf]; exact g j v i)
 unfold zgf at c
 cases a : P.info? t with
 | none => simp [a] at c
 | some inf =>
   have d : inf.size = n:=(by simpa [a] using c);simp [Instr.loadAt,Instr.sureAddr,loadVar,zhV (w:=w) h,sizeOf,typeInfo,a,d,f]
theorem zlV {α : Type} {o n : Nat} {e x : List α} (h : cut o n e = some x) : o + n ≤ e.length ∧ x = (e.drop o).take n:=by
 unfold cut at h;split at h
 ·injection h with h; exact ⟨by assumption,h.symm⟩
 ·cases h
theorem zmk {σ : zb} {e : List C} {us : List Value} (h : zm g w σ e us) (o n : Nat) : zm g w σ ((e.drop o).take n) ((us.drop o).take n):=by
 have d:=zw h;refine zic (by simp [d]) fun j c u a hu => ?_;rw [yj] at a hu;split at a
 ·rw [if_pos (by assumption),yg] at hu
  rw [yg] at a;obtain ⟨i,b,f⟩:=zcD h a;rw [b] at hu;injection hu with hu;rw [← hu];exact f
 ·cases a
theorem znc {σ : zb} : ∀ {cs : List Fz} {us : List Value},us.length = cs.length → (∀ (j : Nat) (x : Fz) (u : Value),cs[j]? = some x → us[j]? = some u → rep w g.N x u) → zm g w σ (cs.map C.f) us
 | cs,us,hl,h => zic (by simpa using hl) fun j c u a hu => by
   rw [yi,ya] at a;obtain ⟨x,b,rfl⟩:=a;simp only [zq];exact h j x u b hu
theorem ztR (K : Rel g w r.st) {t : TypeId} {x : Operand} {sz : Option Nat} (D : o.op = .load t x) (k : match sz with
   | none => ziB P t = some false
   | some n => ziB P t = some true ∧ zgf P t = some n)
  {J v : V} (d : ze g w r.st J (a.eval x)) (h : ald r.st sz J = some v) :
  ∃ u,(execOp a.eval o).run P w = .ok (.value u) w ∧ ze g w r.st v u:=by
 unfold ald at h;split at h
 ·
  rename_i id I i off;rw [ya] at h;obtain ⟨c,f,rfl⟩:=h;unfold zb.cell at f;rw [ye] at f;obtain ⟨e,f,E⟩:=f;obtain ⟨b,z,us,A,C,G,_,q⟩:=zo2 K f d;obtain ⟨u,M,Q⟩:=zcD G E;refine ⟨u,?_,Q⟩;unfold execOp;simp only [D,A];simp [ziI (P:=P) (w:=w) k (q off u M)]
 ·
  rename_i cs off;rw [ya] at h;obtain ⟨y,f,rfl⟩:=h;simp only [ze,zq] at d;obtain ⟨b,z,A,C⟩:=d;obtain ⟨u,_,B,q⟩:=zeK C f;refine ⟨u,?_,by simpa only [vf,ze,zq] using q⟩;unfold execOp;simp only [D,A];simp [ziI (P:=P) (w:=w) k B]
 ·
  rename_i n id I i off;rw [ya] at h;obtain ⟨O,f,rfl⟩:=h;rw [ye] at f;obtain ⟨e,f,E⟩:=f;obtain ⟨hle,rfl⟩:=zlV E;obtain ⟨b,z,us,A,C,G,_,q⟩:=zo2 K f d;refine ⟨.agg ((us.drop off).take n).toArray,?_,?_⟩
  ·unfold execOp
   simp only [D,A]
   simp [zfJ (P:=P) (w:=w) (b:=b) (o:=z + off) (vs:=(us.drop off).take n) k.1 k.2 (by simp; omega) (fun j v m => by
    rw [yj] at m;split at m
    ·rw [yg] at m
     have:=q _ _ m
     rwa [← ym] at this
    ·cases m)]
  ·simp only [ze]
   exact ⟨_,rfl,by simpa using zmk G off n⟩
 ·rename_i n cs off
  rw [ya] at h;obtain ⟨O,f,rfl⟩:=h;obtain ⟨hle,rfl⟩:=zlV f;simp only [ze,zq] at d;obtain ⟨b,z,A,C⟩:=d
  have p : ∀ j,j < n → ∃ u,w.cell? ⟨b,z + off + j,none⟩ = some u ∧ ∀ x,cs[off + j]? = some x → rep w g.N x u:=fun j H => by
   obtain ⟨u,_,B,q⟩:=zeK C (yc (by omega : off + j < cs.length));refine ⟨u,by rwa [ym],fun x d => ?_⟩;rw [yc (by omega : off + j < cs.length)] at d;injection d with d;rw [← d]; exact q
  let us : List Value:=(yu n).map fun j => (w.cell? ⟨b,z + off + j,none⟩).getD undef
  refine ⟨.agg us.toArray,?_,?_⟩
  ·unfold execOp
   simp only [D,A]
   simp [zfJ (P:=P) (w:=w) (b:=b) (o:=z + off) (vs:=us) k.1 k.2 (by simp [us]) (fun j v m => by
    simp only [us,yi,ya] at m;obtain ⟨R,l,m⟩:=m;have s:=za l;simp at s;rw [yf s] at l;injection l with l;subst l;obtain ⟨u,B,_⟩:=p j s;rw [B] at m ⊢
    simpa using m)]
  ·simp only [zym,ze]
   refine ⟨us.toArray,rfl,znc (by simp [us]; omega) fun j x u d hu => ?_⟩;rw [yj] at d;split at d
   ·rename_i H
    rw [yg] at d;obtain ⟨L,B,q⟩:=p j H
    have : us[j]? = some L:=by
     simp only [us,yi,yf H,yn,B,yk]
    rw [show us.toArray.toList = us from by simp,this] at hu;injection hu with hu;rw [← hu];exact q x d
   ·cases d
 ·cases h
theorem zxo {t : TypeId} {x : Operand} {i off : Nat} {sz : Option Nat} {B : Array Field} {f : Field} (z : o.op = .field t x i) (C : P.underlying t = some (.struct B)) (A : B[i]? = some f) (j : f.offset = off)
  (b : match sz with
   | none => ziB P f.type = some false
   | some n => ziB P f.type = some true ∧ zgf P f.type = some n)
  {y v : V} (k : ze g w r.st y (a.eval x)) (h : ztB off sz y = some v) :
  ∃ u,(execOp a.eval o).run P w = .ok (.value u) w ∧ ze g w r.st v u:=by
 subst j;unfold ztB at h;split at h
 ·rename_i cs
  rw [ya] at h;obtain ⟨c,m,rfl⟩:=h;simp only [ze] at k;obtain ⟨us,e,s⟩:=k;obtain ⟨u,G,E⟩:=zcD s m;have l : us[f.offset]? = some u:=by simpa using G
  refine ⟨u,?_,E⟩;unfold execOp;simp [z,e,Instr.field,run_underlying C,A,asAgg,part,zhV (w:=w) b,l]
 ·rename_i n cs
  rw [ya] at h;obtain ⟨D,m,rfl⟩:=h;obtain ⟨hle,rfl⟩:=zlV m;simp only [ze] at k;obtain ⟨us,e,s⟩:=k;refine ⟨.agg (us.extract f.offset (f.offset + n)),?_,?_⟩
  ·have q:=b.2
   unfold zgf at q
   cases p : P.info? f.type with
   | none => simp [p] at q
   | some inf =>
     have d : inf.size = n:=(by simpa [p] using q);unfold execOp;simp [z,e,Instr.field,run_underlying C,A,asAgg,part,zhV (w:=w) b.1,sizeOf,typeInfo,p,d]
  ·simp only [ze]
   refine ⟨_,rfl,?_⟩;have:=zmk s f.offset n
   have e2 : (us.extract f.offset (f.offset + n)).toList = (us.toList.drop f.offset).take n:=by
    rw [Array.toList_extract];simp [List.extract,Nat.add_sub_cancel_left]
   rw [e2];exact this
 ·cases h
def zwc (κ : List Tmp) (loc : List (Option Tmp)) : List Operand → List X → Bool
 | [],[] => true
 | x :: xs,y :: ys => okX κ loc x y && zwc κ loc xs ys
 | _,_ => false
theorem Fr.gets (F : Fr κ loc nt g w r a) : ∀ {xs : List Operand} {ys : List X},zwc κ loc xs ys = true → zv g w r.st (r.gets ys) (xs.map a.eval)
 | [],[],_ => by simp [R.gets,zv]
 | x :: xs,y :: ys,h => by
   simp only [zwc,yl] at h;simp only [R.gets,zv,yr];exact ⟨_,_,rfl,F.get h.1,F.gets h.2⟩
 | [],_ :: _,h => by simp [zwc] at h
 | _ :: _,[],h => by simp [zwc] at h
theorem zpk {σ : zb} : ∀ {vs : List V} {us : List Value},zv g w σ vs us → zm g w σ (vs.map V.c1) us
 | [],us,h => by simpa only [zv,zm,List.map_nil] using h
 | v :: vs,us,h => by
   simp only [zv] at h;obtain ⟨x,xs,rfl,b,a⟩:=h;simp only [yr,zm];refine ⟨x,xs,rfl,?_,zpk a⟩
   cases v with
   | one c => simpa only [V.c1,ze] using b
   | agg cs => simp only [V.c1,zq]
   | tup cs => simp only [V.c1,zq]
theorem zv6 (F : Fr κ loc nt g w r a) {f : Nat} {first c : Array Operand} {b d : List X} (h : o.op = .makeFunc (.func f) first c) (i : zwc κ loc first.toList b = true) (e : zwc κ loc c.toList d = true) :
  ∃ u,(execOp a.eval o).run P w = .ok (.value u) w ∧ ze g w r.st (.one (.fn f ((r.gets b).map V.c1) ((r.gets d).map V.c1))) u:=by
 refine ⟨.func (.func f) (first.map a.eval) (c.map a.eval),?_,?_⟩
 ·unfold execOp
  simp [h,Instr.makeFunc]
 ·simp only [ze,zq]
  exact ⟨_,_,rfl,by simpa using zpk (F.gets i),by simpa using zpk (F.gets e)⟩
end
structure Low (base lim : Nat) (σ : zb) : Prop where
 le : True
theorem Low.append {base lim : Nat} {σ : zb} (_ : Low base lim σ) (os : List Ob) : Low base lim (σ ++ os):=⟨trivial⟩
theorem Low.set {base lim : Nat} {σ : zb} (_ : Low base lim σ) {id : Nat} {o : Ob} : Low base lim (σ.set id o):=⟨trivial⟩
def znO (κ : List Tmp) (loc : List (Option Tmp)) (nt : Nat) (g : G) (w : World) (r r' : R) (pa : Value → Act) (next : Act → World → Prop) : Prop :=
 ∀ g' w' u,Ext g w r.st g' w' r'.st → Rel g' w' r'.st → Low r.base r.lim r'.st → Fr κ loc nt g' w' r' (pa u) → next (pa u) w'
section
variable {P : Program} {κ : List Tmp} {loc : List (Option Tmp)} {nt : Nat} {g : G} {w : World} {r r' : R} {a : Act} {o : Go.Oper} {d : D} {next : Act → World → Prop} {Q : Exit → Act → World → Prop}
theorem zjA (c : Rel g w r.st) (L : Low r.base r.lim r.st) (F : Fr κ loc nt g w r a) (hd : okD κ nt o.dst d = true) {v : V} {u : Value} (b : (execOp a.eval o).run P w = .ok (.value u) w) (e : ze g w r.st v u)
  (k : znO κ (zaH o.dst d :: loc) nt g w r (r.put d v) (a.put o.dst) next) : o.wp P a w next Q:=by
 refine zjT b (k g w _ ?_ ?_ ?_ (F.put hd fun _ => e)) <;> rw [zcX]
 ·exact Ext.refl _ _ _
 ·exact c
 ·exact L
theorem zbk {g' : G} {w' : World} {r1 : R} (F : Fr κ loc nt g w r a) (hd : okD κ nt o.dst d = true) (H : Ext g w r.st g' w' r1.st) (h : Rel g' w' r1.st) (e : Low r.base r.lim r1.st) (he : r1.env = r.env) (c : r1.rs = r.rs)
  {v : V} {u : Value} (b : (execOp a.eval o).run P w = .ok (.value u) w') (f : ze g' w' r1.st v u)
  (k : znO κ (zaH o.dst d :: loc) nt g w r (r1.put d v) (a.put o.dst) next) : o.wp P a w next Q:=by
 refine zjT b (k g' w' _ ?_ ?_ ?_ ((F.ext H he c).put hd fun _ => f)) <;> rw [zcX]
 ·exact H
 ·exact h
 ·exact e
theorem zpY {g' : G} {w' : World} {r1 : R} (F : Fr κ loc nt g w r a) (hd : okD κ nt o.dst d = true) (c : d = .no) (H : Ext g w r.st g' w' r1.st) (i : Rel g' w' r1.st) (f : Low r.base r.lim r1.st) (he : r1.env = r.env) (e : r1.rs = r.rs)
  (b : (execOp a.eval o).run P w = .ok .skip w') (k : znO κ (zaH o.dst d :: loc) nt g w r (r1.put d vun) (a.put o.dst) next) : o.wp P a w next Q:=by
 refine zts b (k g' w' _ ?_ ?_ ?_ ((F.ext H he e).put hd fun h => absurd c h)) <;> rw [zcX]
 ·exact H
 ·exact i
 ·exact f
theorem zpH {N : zeb} {x : Fz} {u : Value} (h : rep w N x u) : u.oneCell' = true:=by
 cases x with
 | lit v =>
   simp only [rep] at h;rw [h.1];have:=h.2;cases v <;> simp_all [zxN,Value.oneCell']
 | sl xs =>
   obtain ⟨_,_,e,_⟩:=zhp h;rw [e];rfl
theorem ztS {σ : zb} {c : C} {u : Value} (h : zq g w σ c u) (a : c ≠ .un) : u.oneCell' = true:=by
 cases c with
 | f x => simp only [zq] at h; exact zpH h
 | ap t k xs => simp only [zq] at h; exact zpH h.1
 | ptr id ver i off => simp only [zq] at h; obtain ⟨_,_,_,_,_,_,_,e⟩:=h; rw [e]; rfl
 | fp cs off => simp only [zq] at h; obtain ⟨_,_,e,_⟩:=h; rw [e]; rfl
 | own id ver lo n => simp only [zq] at h; obtain ⟨_,_,_,_,_,_,_,_,e⟩:=h; rw [e]; rfl
 | map id => simp only [zq] at h; rw [h.2]; rfl
 | fn f x y => simp only [zq] at h; obtain ⟨_,_,e,_⟩:=h; rw [e]; rfl
 | un => exact absurd rfl a
theorem zwb : ∀ {cs : List C},C.kns cs = true → ∀ c ∈ cs,c ≠ .un
 | [],_,c,h => by simp at h
 | x :: cs,hk,c,h => by
   cases x <;> simp only [C.kns] at hk <;> first
    | (cases hk; done)
    | (rcases yq.1 h with rfl | h
       ·simp
       ·exact zwb hk c h)
theorem zxv {σ : zb} {cs : List C} {us : List Value} (h : zm g w σ cs us) (e : C.kns cs = true) : ∀ u ∈ us,u.oneCell' = true:=fun u hu => by
 obtain ⟨j,c⟩:=List.mem_iff_getElem?.1 hu;have a:=za c;rw [zw h] at a;obtain ⟨f,b,d⟩:=zcD h (yc a);rw [c] at b;injection b with b;subst b;exact ztS d (zwb e _ (yo a))
theorem zq0 {u : Value} (h : u.oneCell' = true) : u.cells = #[u]:=by cases u <;> simp_all [Value.oneCell',Value.cells]
theorem zf1 {σ : zb} {v : V} {u : Value} (h : ze g w σ v u) (d : C.kns v.cells = true) (i : 0 < v.cells.length) : zm g w σ v.cells u.cells.toList ∧ ∀ x ∈ u.cells.toList,x.oneCell' = true:=by
 cases v with
 | one c =>
   simp only [ze] at h;have j : c ≠ .un:=zwb (cs:=[c]) d c (by simp);have f:=ztS h j;rw [zq0 f];simp only [V.cells,zm];exact ⟨⟨u,[],rfl,h,rfl⟩,fun x b => by simp at b; rw [b]; exact f⟩
 | agg cs =>
   simp only [ze] at h;obtain ⟨us,e,a⟩:=h;rw [e];exact ⟨a,zxv a d⟩
 | tup vs => simp [V.cells] at i
mutual
theorem zk9 {σ : zb} : ∀ (c : C) (u : Value),zq g w σ c u → c.lt σ.length = true
 | .f _,_,_ => by simp [C.lt]
 | .ap t k xs,u,h => by
   simp only [zq] at h;obtain ⟨_,n,b,_⟩:=h;obtain ⟨_,_,a,_⟩:=zb7 b;simpa [C.lt] using za a
 | .ptr id ver i off,u,h => by
   simp only [zq] at h;obtain ⟨_,_,_,d,_⟩:=h;obtain ⟨_,a,_⟩:=zao d;simpa [C.lt] using za a
 | .fp _ _,_,_ => by simp [C.lt]
 | .own id ver lo n,u,h => by
   simp only [zq] at h;obtain ⟨_,_,_,d,_⟩:=h;obtain ⟨_,a,_⟩:=zao d;simpa [C.lt] using za a
 | .map id,u,h => by
   simp only [zq] at h;obtain ⟨⟨_,a⟩,_⟩:=h;simpa [C.lt] using za a
 | .fn f x y,u,h => by
   simp only [zq] at h;obtain ⟨e,cs,_,b,a⟩:=h;simp [C.lt,zl1 x _ b,zl1 y _ a]
 | .un,_,_ => by simp [C.lt]
theorem zl1 {σ : zb} : ∀ (cs : List C) (us : List Value),zm g w σ cs us → C.lts σ.length cs = true
 | [],_,_ => by simp [C.lts]
 | c :: cs,us,h => by
   simp only [zm] at h;obtain ⟨v,vs,_,a,b⟩:=h;simp [C.lts,zk9 c v a,zl1 cs vs b]
end
theorem zwm {n : Nat} : ∀ {cs : List C},C.lts n cs = true ↔ ∀ c ∈ cs,c.lt n = true
 | [] => by simp [C.lts]
 | c :: cs => by simp [C.lts,zwm]
theorem zue {n : Nat} : ∀ {es : List (List C)},C.ltss n es = true ↔ ∀ e ∈ es,C.lts n e = true
 | [] => by simp [C.ltss]
 | c :: cs => by simp [C.ltss,zue]
theorem zmY {t : TypeId} {b o : Nat} {arr : Array Value} {ty : TypeId} {u : Value} {n : Nat} (e : zgf P t = some n) (g : u.cells.size = n) (h : w.heap[b]? = some (.cells arr ty (0,0))) (a : o + n ≤ arr.size) (i : ∀ x ∈ u.cells.toList,x.oneCell' = true) :
  (Instr.storeAt t (.pointer (some ⟨b,o,none⟩)) u).run P w = .ok () (w.setRow b (zbs arr o u.cells.toList)):=by
 have c:=run_storeCells_at P b o ty u.cells.toList 0 arr w h (by simpa [g] using a) i;simp only [Nat.add_zero] at c;unfold zgf at e
 cases d : P.info? t with
 | none => simp [d] at e
 | some inf =>
   have f : inf.size = n:=(by simpa [d] using e);simp [Instr.storeAt,Instr.sureAddr,storeVar,sizeOf,typeInfo,d,f,g,c,zbs]
theorem zzd (U : Rel g w r.st) (L : Low r.base r.lim r.st) (F : Fr κ loc nt g w r a) {t : TypeId} {x v : Operand} {sz : Nat} (N : o.op = .store t x v) (hd : okD κ nt o.dst d = true) (A : d = .no) (S : zgf P t = some sz) (h0 : 0 < sz)
  {B D : V} (C : ze g w r.st B (a.eval x)) (M : ze g w r.st D (a.eval v)) {r1 : R} (h : ast r sz D.cells B = some r1)
  (k : znO κ (zaH o.dst d :: loc) nt g w r (r1.put d vun) (a.put o.dst) next) : o.wp P a w next Q:=by
 unfold ast at h;split at h
 ·rename_i id W i off
  split at h
  ·rename_i hlen
   unfold R.write at h;split at h
   ·rename_i l
    rw [ya] at h;obtain ⟨I,s,rfl⟩:=h;rw [ye] at s;obtain ⟨ob,s,b⟩:=s;unfold Ob.write at b;split at b
    ·rename_i z f es
     split at b
     ·rename_i p
      subst p;rw [ya] at b;obtain ⟨K,b,rfl⟩:=b;rw [ye] at b;obtain ⟨e,b,J⟩:=b;obtain ⟨G,E⟩:=zf1 M l (by omega);obtain ⟨arr,ty,O,c,Y,X⟩:=zta U s b J G E
      have q : a.eval x = .pointer (some ⟨g.ρ id,i * f + off,none⟩):=by
       simp only [ze,zq] at C;obtain ⟨v0,s0,Z,m1,_,H,_⟩:=C;rw [zo s] at m1;injection m1 with m1;injection m1 with e1 m1;injection m1 with e2 e3;subst e1 e2;exact H rfl
      have m:=zw G;have j : (a.eval v).cells.size = sz:=(by rw [← hlen,← m]; simp);refine zpY (r1:=r.setOb id (upd z f i es K)) F hd A Y X L.set rfl rfl ?_ k
      ·unfold execOp
       simp only [N,q];have y:=zmY (P:=P) (w:=w) (u:=a.eval v) (n:=sz) (o:=i * f + off) S j O (by rw [m,hlen] at c; exact c) E;simp only [Sem.run_bind,y,Result.andThen_ok,Sem.run_pure]
     ·cases b
    ·cases b
   ·cases h
  ·cases h
 ·cases h
end
def zeroOf (P : Program) (t : TypeId) : Option (List Value):=((P.info? t).bind (·.zero)).map fun z => z.cells.toList
def zgV (zs : List Value) : List (Nat × Nat) → Bool
 | [] => true
 | j :: js => (match zs[j.1]? with
   | some (.slice none 0 0) => true
   | _ => false) && zgV zs js
def G.nils (g : G) (t : Nat) (f : Nat → Value) : G:={ g with tv:=fun t' k => if t' = t then f k else g.tv t' k }
section
variable {g : G} {w : World} {σ : zb}
theorem zum (R : Rel g w σ) (ob : Ob) (f : Nat → Value) (e : ∀ {σ' : zb},Ext g w σ (g.nils σ.length f) w σ' → zyl (g.nils σ.length f) w σ' σ.length ob) :
  Ext g w σ (g.nils σ.length f) w (σ ++ [ob]) ∧ Rel (g.nils σ.length f) w (σ ++ [ob]):=by
 have b : ∀ t k,t < σ.length → (g.nils σ.length f).tv t k = g.tv t k:=fun t k h => by
  show (if t = σ.length then f k else g.tv t k) = _
  rw [if_neg (by omega)]
 have H : Ext g w σ (g.nils σ.length f) w (σ ++ [ob]):={
  os:=rfl
  tape:=rfl
  output:=rfl
  size:=yd _
  keeps:=fun _ _ h => ⟨h,rfl⟩
  len:=by simp
  shape:=fun id l sz len h => by
   obtain ⟨es,a,_⟩:=zao h;exact .inl ⟨by unfold shapeOf; rw [yb (za a)]; exact h,rfl,fun _ arr t j => ⟨arr,j,rfl⟩⟩
  map:=fun id es h => ⟨rfl,es,by rw [yb (za h)]; exact h⟩
  tok:=fun t k n h => by
   obtain ⟨sz,fr,a,i⟩:=zb7 h;exact ⟨n,zct (by rw [yb (za a)]; exact a) i,yd _,fun _ => b t k (za a)⟩
  tsz:=fun t sz h => by
   obtain ⟨fr,a⟩:=zdh h;exact zbC (fr:=fr) (by rw [yb (za a)]; exact a)
  ow:=fun _ _ => rfl
  new:=fun _ _ h _ _ => h
  frame:=fun _ _ _ => rfl }
 refine ⟨H,⟨R.nb,fun id o h => ?_⟩⟩
 by_cases c : id < σ.length
 ·rw [yb c] at h
  exact zbi H rfl (fun k => b id k c) (fun _ _ _ => ⟨rfl,rfl,fun _ h => h⟩) (R.ob id o h)
 ·have d : id = σ.length:=by
   have:=za h;simp at this;omega
  subst d;simp at h;subst h;exact e H
theorem G.nils_tv (g : G) (t k : Nat) (f : Nat → Value) : (g.nils t f).tv t k = f k:=by
 show (if t = t then f k else _) = _
 rw [if_pos rfl]
theorem zqg (R : Rel g w σ) (sz : Nat) (fr : List Nat) (f : Nat → Value) (b : ∀ k n,fr[k]? = some n → n = 0 ∧ ∃ a,f k = .slice a 0 0) :
  Ext g w σ (g.nils σ.length f) w (σ ++ [.tok sz fr]) ∧ Rel (g.nils σ.length f) w (σ ++ [.tok sz fr]) :=
 zum R _ f fun _ => fun k n d => by
  obtain ⟨c,a,e⟩:=b k n d;exact .inl ⟨c,a,by rw [G.nils_tv]; exact e⟩
theorem zgn : ∀ fresh : List (Nat × Nat),(tokens fresh).length = fresh.length
 | [] => rfl
 | _ :: js => by simp [tokens,zgn js]
theorem zgP : ∀ (fresh : List (Nat × Nat)) (t : Nat) (cs : List C),(zee t fresh cs).length = cs.length
 | [],_,_ => rfl
 | _ :: js,t,cs => by rw [zee,zgP js]; simp
theorem zns {cs : List C} {us : List Value} {j : Nat} {c : C} {u : Value} (h : zm g w σ cs us) (hu : us[j]? = some u) (k : zq g w σ c u) : zm g w σ (cs.set j c) us:=by
 have f:=zw h;refine zic (by simpa using f) fun i x v b a => ?_;rw [List.getElem?_set] at b
 by_cases e : j = i
 ·subst e
  have d : j < cs.length:=by rw [← f]; exact za hu
  simp [d] at b;subst b;rw [hu] at a;injection a with a;rw [← a];exact k
 ·rw [if_neg e] at b
  obtain ⟨v',m,l⟩:=zcD h b;rw [m] at a;injection a with a;rw [← a];exact l
theorem zpz {N : zeb} : rep w N (.sl []) (.slice none 0 0):=by
 rw [rep];exact ⟨none,0,0,rfl,yd _,by simp only [zbr],.inl rfl⟩
theorem zpU {σ : zb} (R : Rel g w σ) (sz : Nat) : Ext g w σ (g.nils σ.length fun _ => undef) w (σ ++ [.cells 0 sz []]) ∧ Rel (g.nils σ.length fun _ => undef) w (σ ++ [.cells 0 sz []]) :=
 zum R _ _ fun _ h => absurd rfl h
theorem zBg {σ : zb} {sz n q : Nat} (a : q < n) (g : G) : zq g w (σ ++ yp n (.cells 0 sz [])) (.own (σ.length + q) 0 0 0) (.slice none 0 0):=by
 rw [zq]
 have b : shapeOf (σ ++ yp n (.cells 0 sz [])) (σ.length + q) = some (0,sz,0):=by
  unfold shapeOf;rw [List.getElem?_append_right (by omega),show σ.length + q - σ.length = q by omega,List.getElem?_replicate,if_pos a];rfl
 exact ⟨0,sz,0,b,yd _,fun _ => ⟨none,0,rfl,yd _,fun _ => rfl,fun h => absurd rfl h⟩,_,_,rfl⟩
theorem zpr : ∀ (fresh : List (Nat × Nat)) {g : G} {σ : zb} {cs : List C} {a : List Value},Rel g w σ → zgV a fresh = true → zm g w σ cs a →
  ∃ g',Ext g w σ g' w (σ ++ tokens fresh) ∧ Rel g' w (σ ++ tokens fresh) ∧ zm g' w (σ ++ tokens fresh) (zee σ.length fresh cs) a
 | [],g,σ,cs,a,R,_,h => ⟨g,by simpa [tokens] using Ext.refl g w σ,by simpa [tokens] using R,by simpa [tokens,zee] using h⟩
 | j :: js,g,σ,cs,a,R,hf,h => by
   simp only [zgV,yl] at hf;obtain ⟨p,b⟩:=hf
   have o : a[j.1]? = some (.slice none 0 0):=by
    split at p
    ·assumption
    ·cases p
   by_cases c : 4096 ≤ j.2
   ·obtain ⟨H1,m⟩:=zpU R (j.2 - 4096)
    have l : zq (g.nils σ.length fun _ => undef) w (σ ++ [.cells 0 (j.2 - 4096) []]) (zBD σ.length j.2) (.slice none 0 0):=by
     rw [zBD,if_pos c];have:=zBg (σ:=σ) (sz:=j.2 - 4096) (n:=1) (q:=0) (w:=w) (by omega) (g.nils σ.length fun _ => undef);simpa using this
    obtain ⟨g',i,e,d⟩:=zpr js m b (zns (H1.zm _ _ h) o l);refine ⟨g',?_,?_,?_⟩
    ·have:=H1.trans i
     simpa [tokens,zz5,if_pos c] using this
    ·simpa [tokens,zz5,if_pos c] using e
    ·simpa [tokens,zz5,if_pos c,zee] using d
   ·obtain ⟨H1,m⟩:=zqg R j.2 [0] (fun _ => .slice none 0 0) (fun k n f => ⟨by
     cases k with
     | zero => simp at f; exact f.symm
     | succ k => simp at f,none,rfl⟩)
    have l : zq (g.nils σ.length fun _ => .slice none 0 0) w (σ ++ [.tok j.2 [0]]) (zBD σ.length j.2) (.slice none 0 0):=by
     rw [zBD,if_neg c,zq];refine ⟨zpz,0,zct (sz:=j.2) (fr:=[0]) (by simp) (by simp),yd _,fun _ => ?_,j.2,zbC (fr:=[0]) (by simp),by simp only [zbr]⟩
     show _ = if σ.length = σ.length then _ else _
     rw [if_pos rfl]
    obtain ⟨g',i,e,d⟩:=zpr js m b (zns (H1.zm _ _ h) o l);refine ⟨g',?_,?_,?_⟩
    ·have:=H1.trans i
     simpa [tokens,zz5,if_neg c] using this
    ·simpa [tokens,zz5,if_neg c] using e
    ·simpa [tokens,zz5,if_neg c,zee] using d
theorem zf5 (R : Rel g w σ) {sz : Nat} {es : List (List C)} {us : List Value} (t : TypeId) (d : us.length = es.length * sz) (a : zb9 g w σ us.toArray sz es) :
  Ext g w σ (g.own σ.length w.heap.size) (w.alloc (.cells us.toArray t)) (σ ++ [.cells 0 sz es]) ∧ Rel (g.own σ.length w.heap.size) (w.alloc (.cells us.toArray t)) (σ ++ [.cells 0 sz es]) :=
 zrx R (.cells 0 sz es) (.cells us.toArray t) fun H b c e _ => ⟨by rw [b]; exact c,by rw [b]; exact e,us.toArray,t,by rw [b]; exact z7 w _,by simp [d],H.zb9 a⟩
theorem zie (σ : zb) (o : Ob) : (σ ++ [o])[σ.length]? = some o:=by simp
theorem zrV {sz : Nat} {es : List (List C)} (o : Obj) : ze (g.own σ.length w.heap.size) (w.alloc o) (σ ++ [.cells 0 sz es]) (.one (.ptr σ.length 0 0 0)) (.pointer (some ⟨w.heap.size,0,none⟩)):=by
 simp only [ze,zq];exact ⟨0,sz,es.length,zo (zie σ _),yd _,fun _ => by simp [G.own],_,rfl⟩
theorem zmI {sz : Nat} {es : List (List C)} {us : List Value} (t : TypeId) (a : us.length = es.length * sz) :
  ze (g.own σ.length w.heap.size) (w.alloc (.cells us.toArray t)) (σ ++ [.cells 0 sz es]) (.one (.own σ.length 0 0 es.length)) (.slice (some ⟨w.heap.size,0,none⟩) es.length es.length):=by
 simp only [ze,zq];refine ⟨0,sz,es.length,zo (zie σ _),yd _,fun _ => ⟨_,_,rfl,yd _,fun h => h,fun _ => ⟨by omega,fun _ => by simp [G.own],us.toArray,t,?_,by simp [a]⟩⟩,_,_,rfl⟩;simpa [G.own] using z7 w (.cells us.toArray t)
theorem zla {cs : List C} {us : List Value} (h : zm g w σ cs us) (k : ∀ u ∈ us,u.oneCell' = true) : zb9 g w σ us.toArray cs.length [cs]:=fun i e a => by
 cases i with
 | succ i => simp at a
 | zero =>
   simp at a;subst a;refine ⟨rfl,fun j c f => ?_⟩;obtain ⟨u,b,d⟩:=zcD h f;exact ⟨u,by simpa using b,d,k u (List.mem_of_getElem? b)⟩
theorem zx2 (R : Rel g w σ) {sz : Nat} {xs : List (List Fz)} {us : List Value} (t : TypeId) (m : Lay w g.N sz xs us) :
  ∃ g',Ext g w σ g' (w.alloc (.cells us.toArray t)) (σ ++ [.tok sz [xs.length]]) ∧ Rel g' (w.alloc (.cells us.toArray t)) (σ ++ [.tok sz [xs.length]]) ∧
    ze g' (w.alloc (.cells us.toArray t)) (σ ++ [.tok sz [xs.length]]) (.one (.ap σ.length 0 xs)) (.slice (some ⟨w.heap.size,0,none⟩) xs.length xs.length):=by
 let g' : G:={ g with tv:=fun c k => if c = σ.length then .slice (some ⟨w.heap.size,0,none⟩) xs.length xs.length else g.tv c k,ow:=zr1 g.ow w.heap.size (.tk σ.length 0),N:=fun b o => g.N b o ∨ (b = w.heap.size ∧ o < xs.length * sz) }
 have q : ∀ b,b < w.heap.size → g'.ow b = g.ow b:=fun b l => zP g.ow (k:=w.heap.size) (i:=b) _ (by omega);have x : ∀ b o,b < w.heap.size → (g'.N b o ↔ g.N b o):=fun b o l => ⟨fun h => h.elim id fun h => by omega,.inl⟩
 have f : ∀ c k,c < σ.length → g'.tv c k = g.tv c k:=fun c k h => by
  show (if c = σ.length then _ else g.tv c k) = _
  rw [if_neg (by omega)]
 have e : ∀ k,g'.tv σ.length k = .slice (some ⟨w.heap.size,0,none⟩) xs.length xs.length:=fun k => by
  show (if σ.length = σ.length then _ else _) = _
  rw [if_pos rfl]
 have H : Ext g w σ g' (w.alloc (.cells us.toArray t)) (σ ++ [.tok sz [xs.length]]) :=
  Ext.alloc R _ g' (fun _ _ => rfl) (fun c k n h => f c k (by obtain ⟨_,_,z,_⟩:=zb7 h; exact za z)) q x _
 have p:=z7 w (.cells us.toArray t);refine ⟨g',H,⟨fun b o h => ?_,fun id o h => ?_⟩,?_⟩
 ·rw [size_alloc]
  rcases h with h | h
  ·have:=R.nb b o h; omega
  ·omega
 ·by_cases d : id < σ.length
  ·rw [yb d] at h
   exact zbi H rfl (fun k => f id k d) (fun b l _ => ⟨heap_alloc_old w _ l,q b l,fun o => (x b o l).1⟩) (R.ob id o h)
  ·have u : id = σ.length:=by
    have:=za h;simp at this;omega
   subst u;simp at h;subst h;intro k n s
   cases k with
   | succ k => simp at s
   | zero =>
     simp at s;subst s;rw [e];rcases Nat.eq_zero_or_pos xs.length with r | r
     ·exact .inl ⟨r,_,by rw [r]⟩
     ·refine .inr ⟨_,_,_,us.toArray,t,rfl,r,yd _,zcv _ _ _,p,by simp [m.1],fun A a => ?_⟩
      rcases a with a | a
      ·exact absurd (R.nb _ _ a) (Nat.lt_irrefl _)
      ·have:=a.2; omega
 ·simp only [ze,zq]
  refine ⟨zua m.2.1 (yd _) (zjw m H.keeps fun j v y => ?_),xs.length,zct (sz:=sz) (fr:=[xs.length]) (by simp) (by simp),yd _,fun _ => (e 0).symm,sz,zbC (fr:=[xs.length]) (by simp),m.2.1⟩;have d:=za y;rw [m.1] at d;refine ⟨.inr ⟨rfl,by omega⟩,?_⟩;rw [yt,zfQ p];simpa using y
theorem zzi (R : Rel g w σ) {sz : Nat} {xs : List (List Fz)} {us : List Value} (t : TypeId) (a : Lay w g.N sz xs us) :
  ∃ g',Ext g w σ g' (w.alloc (.cells us.toArray t)) σ ∧ Rel g' (w.alloc (.cells us.toArray t)) σ ∧
    ze g' (w.alloc (.cells us.toArray t)) σ (vsl xs) (.slice (some ⟨w.heap.size,0,none⟩) xs.length xs.length):=by
 obtain ⟨H,b⟩:=zqz R (.cells us.toArray t);refine ⟨_,H,b,?_⟩;simp only [vsl,ze,zq];refine zua a.2.1 (yd _) (zjw a H.keeps fun j v c => ⟨.inr rfl,?_⟩);rw [yt,zfQ (z7 w _)];simpa using c
end
end Go.A

/- A part of the proof of AffineFinds. Conditions: none. -/
import Derived.Test.YtmkncmffaaninaaGreatXAC
import Derived.Deep.MidRow
import Derived.Laws.AppendOwn
import Derived.Laws.MakeOwn
set_option linter.all false
open Option renaming map_eq_some_iff → ya,bind_eq_some_iff → ye,getD_some → yk,map_some → yn
open List renaming getElem?_append_left → yb,getElem?_eq_getElem → yc,getElem?_range → yf,getElem?_drop → yg,getElem?_map → yi,getElem?_take → yj,getElem_mem → yo,replicate → yp,mem_cons → yq,map_cons → yr,range → yu
open Nat renaming le_refl → yd,add_assoc → ym,zero_add → yt,add_mul → yv
open Array renaming getD_eq_getD_getElem? → yh
open Bool renaming and_eq_true → yl
namespace Go.A
section
variable {P : Program} {κ : List Tmp} {loc : List (Option Tmp)} {nt : Nat} {g : G} {w : World} {r r' : R} {a : Act} {o : Go.Oper} {d : D} {next : Act → World → Prop} {Q : Exit → Act → World → Prop}
theorem zys {v : V} {u : Value} {n : Nat} {σ : zd} (a : zh g w σ v u) (h : zDx v = some n) : ∃ k,u = .int k (n : Int):=by
 unfold zDx at h;split at h
 ·rename_i k m
  split at h
  ·injection h with h
   obtain ⟨e,_⟩:=z7 a;exact ⟨k,by rw [e,← h,Int.toNat_of_nonneg (by assumption)]⟩
  ·cases h
 ·cases h
theorem run_sliceBound {k : IntKind} {n y : Nat} (c : BoundsCode) (h : n ≤ y) : (Instr.sliceBound (.int k n) y c).run P w = .ok n w:=by
 have a : (n : Int) ≤ (y : Int):=by omega
 simp [Instr.sliceBound,asIntOf,a]
theorem zqQ (b : Bool) {len cap lo e : Nat} {f c a : Option Value} (d : (f = none ∧ lo = 0) ∨ ∃ k,f = some (.int k lo)) (g : (c = none ∧ a = none ∧ e = len) ∨ ∃ k,c = some (.int k e))
  (l : a = none ∨ a = c) (h : lo ≤ e) (i : e ≤ cap) :
  (Instr.sliceBounds b len cap f c a).run P w = .ok (lo,e,if a.isSome then e else cap) w:=by
 rcases l with rfl | rfl
 ·rcases g with ⟨rfl,_,rfl⟩ | ⟨k,rfl⟩
  ·rcases d with ⟨rfl,rfl⟩ | ⟨j,rfl⟩
   ·simp [Instr.sliceBounds]
   ·simp [Instr.sliceBounds,run_sliceBound _ h]
  ·rcases d with ⟨rfl,rfl⟩ | ⟨j,rfl⟩
   ·simp [Instr.sliceBounds,run_sliceBound _ i]
   ·simp [Instr.sliceBounds,run_sliceBound _ h,run_sliceBound _ i]
 ·rcases g with ⟨rfl,_,rfl⟩ | ⟨k,rfl⟩
  ·rcases d with ⟨rfl,rfl⟩ | ⟨j,rfl⟩
   ·simp [Instr.sliceBounds]
   ·simp [Instr.sliceBounds,run_sliceBound _ h]
  ·rcases d with ⟨rfl,rfl⟩ | ⟨j,rfl⟩
   ·simp [Instr.sliceBounds,run_sliceBound _ i,run_sliceBound _ (yd e)]
   ·simp [Instr.sliceBounds,run_sliceBound _ h,run_sliceBound _ i,run_sliceBound _ (yd e)]
theorem zwq {t e : TypeId} {len cap lo c sz : Nat} {ad : Option Addr} {d b a : Option Value} (m : P.underlying t = some (.slice e)) (l : zjg P e = some sz) (f : (d = none ∧ lo = 0) ∨ ∃ k,d = some (.int k lo)) (g : (b = none ∧ a = none ∧ c = len) ∨ ∃ k,b = some (.int k c))
  (i : a = none ∨ a = b) (n : lo ≤ c) (o : c ≤ cap) :
  (Instr.sliceAt t (.slice ad len cap) d b a).run P w = .ok (.slice (if (if a.isSome then c else cap) = lo then ad else ad.map (·.add (lo * sz))) (c - lo) ((if a.isSome then c else cap) - lo)) w:=by
 unfold zjg at l
 cases j : P.info? e with
 | none => simp [j] at l
 | some inf =>
   have h : inf.size = sz:=(by simpa [j] using l);simp [Instr.sliceAt,Instr.slice,run_underlying m,zqQ (w:=w) (P:=P) true f g i n o,sizeOf,typeInfo,j,h]
theorem zuQ {N : zgY} {xs : List (List Fz)} {ad : Option Addr} {c lo d m sz : Nat} (h : rep w N (.sl xs) (.slice ad xs.length c)) (f : ∀ e ∈ xs,e.length = sz) (s : lo ≤ d) (p : d ≤ xs.length) (hm : d ≤ m) :
  rep w N (.sl ((xs.take d).drop lo)) (.slice (if m = lo then ad else ad.map (·.add (lo * sz))) (d - lo) (m - lo)):=by
 have hlen : ((xs.take d).drop lo).length = d - lo:=by simp; omega
 simp only [rep] at h ⊢;obtain ⟨n,r,g,e1,e2,e3,e4⟩:=h;injection e1 with e1 _ _;subst e1;rw [hlen];refine ⟨_,_,sz,rfl,by omega,zfs fun e he => f e (List.mem_of_mem_take (List.mem_of_mem_drop he)),?_⟩
 by_cases q : lo = d
 ·left
  exact List.eq_nil_of_length_eq_zero (by omega)
 ·right
  have k : m ≠ lo:=by omega
  rw [if_neg k];rcases e4 with rfl | ⟨b,o,rfl,e4⟩
  ·simp at p; omega
  ·have j : g = sz:=by
    have l : 0 < xs.length:=(by omega);rw [← zcc e3 (yc l)];exact f _ (yo l)
   subst j;refine ⟨b,o + lo * g,by simp [zaW],zgw fun i e a => ?_⟩;rw [yg,yj] at a;split at a
   ·have:=zfC e4 a
    rwa [yv,← ym] at this
   ·cases a
theorem zrM {b : Option Go.Operand} {x : Option X} {c n : Nat} (f : ∀ y,x = some y → ∃ y',b = some y' ∧ zh g w r.st (r.get y) (a.eval y')) (j : x = none → b = none) (h : bound r c x = some n) :
  (b.map a.eval = none ∧ n = c) ∨ ∃ k,b.map a.eval = some (.int k n):=by
 cases x with
 | none => simp [bound] at h; left; simp [j rfl,h]
 | some y =>
   obtain ⟨y',e,d⟩:=f y rfl;obtain ⟨k,i⟩:=zys d h;right;exact ⟨k,by simp [e,i]⟩
theorem zps {f : Nat → Nat → Option V} {x y : Option Nat} {v : V} (h : two f x y = some v) : ∃ m n,x = some m ∧ y = some n ∧ f m n = some v:=by
 unfold two at h;split at h
 ·exact ⟨_,_,rfl,rfl,h⟩
 ·cases h
theorem zlq {sz : Nat} : ∀ {xs : List (List Fz)},ztX sz xs = true → ∀ e ∈ xs,e.length = sz
 | [],_,e,he => by simp at he
 | x :: xs,h,e,he => by
   simp only [ztX,yl,decide_eq_true_eq] at h;rcases yq.1 he with rfl | he
   ·exact h.1
   ·exact zlq h.2 e he
def Opt (g : G) (w : World) (r : R) (a : Act) (x : Option Operand) (y : Option X) : Prop:=(∀ z,y = some z → ∃ z',x = some z' ∧ zh g w r.st (r.get z) (a.eval z')) ∧ (y = none → x = none)
theorem zz5 {t e : TypeId} {sz : Nat} {x : Operand} {lo B p : Option Operand} {z j : Option X} {d : Bool} (Y : o.op = .slice t x lo B p) (R : P.underlying t = some (.slice e)) (Z : zjg P e = some sz)
  (E : Opt g w r a lo z) (G : Opt g w r a B j) (y : (p = none ∧ d = false) ∨ (d = true ∧ j.isSome = true ∧ p.map a.eval = B.map a.eval))
  {N v : V} (K : zh g w r.st N (a.eval x)) (h : zHu r sz z j d N = some v) :
  ∃ u,(execOp a.eval o).run P w = .ok (.value u) w ∧ zh g w r.st v u:=by
 have key : ∀ {ad : Option Addr} {len cap l h' : Nat},a.eval x = .slice ad len cap → bound r 0 z = some l → bound r len j = some h' → l ≤ h' → h' ≤ cap →
   ∃ m,h' ≤ m ∧ (d = false → m = cap) ∧ (execOp a.eval o).run P w = .ok (.value (.slice (if m = l then ad else ad.map (·.add (l * sz))) (h' - l) (m - l))) w:=by
  intro ad len cap l h' ex s A b O;have b1:=zrM (a:=a) E.1 E.2 s;have b2:=zrM (a:=a) G.1 G.2 A
  have bb : (B.map a.eval = none ∧ p.map a.eval = none ∧ h' = len) ∨ ∃ k,B.map a.eval = some (.int k h'):=by
   rcases b2 with ⟨b2,b3⟩ | b2
   ·rcases y with ⟨rfl,_⟩ | ⟨_,W,em⟩
    ·exact .inl ⟨b2,rfl,b3⟩
    ·exact .inl ⟨b2,by rw [em]; exact b2,b3⟩
   ·exact .inr b2
  have bm : p.map a.eval = none ∨ p.map a.eval = B.map a.eval:=by
   rcases y with ⟨rfl,_⟩ | ⟨_,_,em⟩
   ·exact .inl rfl
   ·exact .inr em
  have C:=zwq (P:=P) (w:=w) (ad:=ad) R Z b1 bb bm b O;refine ⟨if (p.map a.eval).isSome = true then h' else cap,?_,?_,?_⟩
  ·split <;> omega
  ·intro Q
   rcases y with ⟨rfl,_⟩ | ⟨h,_⟩
   ·simp
   ·rw [Q] at h; cases h
  ·unfold execOp
   simp only [Y,ex,Sem.run_bind,C,Result.andThen_ok,Sem.run_pure]
 unfold zHu at h;split at h
 ·rename_i xs
  obtain ⟨l,h',s,A,b⟩:=zps h;unfold zB7 at b;split at b
  ·rename_i f
   injection b with b;subst b;have q:=zsS K;obtain ⟨ad,c,e1,e2⟩:=zkQ q;rw [e1] at q;obtain ⟨m,H,_,D⟩:=key e1 s A f.1 (by omega);refine ⟨_,D,?_⟩;simp only [vsl,zh,zF];exact zuQ q (zlq f.2.2) f.1 f.2.1 H
  ·cases b
 ·rename_i xs
  obtain ⟨l,h',s,A,b⟩:=zps h;unfold zB7 at b;split at b
  ·rename_i f
   injection b with b;subst b;have q:=zs5 K;obtain ⟨ad,c,e1,e2⟩:=zkQ q;rw [e1] at q;obtain ⟨m,H,_,D⟩:=key e1 s A f.1 (by omega);refine ⟨_,D,?_⟩;simp only [vsl,zh,zF];exact zuQ q (zlq f.2.2) f.1 f.2.1 H
  ·cases b
 ·rename_i id J M n
  split at h
  ·cases h
  ·rename_i I
   obtain ⟨l,h',s,A,b⟩:=zps h;unfold zAF at b;split at b
   ·rename_i f
    injection b with b;subst b;obtain ⟨c1,c2,c3⟩:=f
    cases i : r.st[id]? with
    | none => simp [i] at c3
    | some ob =>
      simp [i] at c3;obtain ⟨es,rfl⟩:=zlI c3;obtain ⟨ad,c,e1,e2,e3,e4⟩:=zhp K i;obtain ⟨m,H,S,D⟩:=key e1 s A c1 (by omega);have hm:=S (by simpa using I);subst hm;refine ⟨_,D,?_⟩;simp only [zh,zF];refine ⟨J,sz,es.length,zC i,yd _,fun _ => ⟨_,_,rfl,by omega,fun L => by have:=e3 L; omega,fun L => ?_⟩,_,_,rfl⟩;obtain ⟨f1,f2,arr,ty,f3,f4⟩:=e4 L;refine ⟨by omega,fun U => ?_,arr,ty,f3,?_⟩
      ·rw [if_neg (by omega),f2 (by omega)]
       simp [zaW,yv]
      ·have : (M + l + (m - l)) = M + m:=by omega
       rw [this]; exact f4
   ·cases b
 ·cases h
theorem zkg {σ : zd} : ∀ {vs : List V} {us : List Value},zO g w σ vs us → ∀ {i : Nat} {v : V},vs[i]? = some v → ∃ u,us[i]? = some u ∧ zh g w σ v u
 | [],_,_,i,v,h => by simp at h
 | x :: vs,us,hr,i,v,h => by
   simp only [zO] at hr;obtain ⟨u,us',rfl,b,a⟩:=hr
   cases i with
   | zero => simp at h; subst h; exact ⟨u,by simp,b⟩
   | succ i => simpa using zkg a (i:=i) (v:=v) (by simpa using h)
theorem zBM {x : Operand} {i : Nat} (k : o.op = .extract x i) {d v : V} (c : zh g w r.st d (a.eval x)) (h : zIA i d = some v) :
  ∃ u,(execOp a.eval o).run P w = .ok (.value u) w ∧ zh g w r.st v u:=by
 unfold zIA at h;split at h
 ·simp only [zh] at c
  obtain ⟨us,e,j⟩:=c;obtain ⟨u,hu,f⟩:=zkg j h;refine ⟨u,?_,f⟩;have b : us[i]? = some u:=by simpa using hu
  unfold execOp;simp [k,e,Instr.extract,b]
 ·cases h
theorem zCd {x : Operand} (c : o.op = .nilCheck x) {d v : V} (b : zh g w r.st d (a.eval x)) (h : zIn d = some v) :
  ∃ u,(execOp a.eval o).run P w = .ok (.value u) w ∧ zh g w r.st v u:=by
 unfold zIn at h;split at h
 ·injection h with h
  subst h;refine ⟨a.eval x,?_,b⟩;simp only [zh,zF] at b;obtain ⟨_,_,_,_,_,_,ad,e⟩:=b;unfold execOp;simp [c,e]
 ·injection h with h
  subst h;refine ⟨a.eval x,?_,b⟩;simp only [zh,zF] at b;obtain ⟨_,_,e,_⟩:=b;unfold execOp;simp [c,e]
 ·injection h with h
  subst h;refine ⟨a.eval x,?_,b⟩;simp only [zh,zF] at b;obtain ⟨_,_,e,_⟩:=b;unfold execOp;simp [c,e]
 ·cases h
theorem zCz {b : Builtin} {isMax : Bool} {x y : Operand} {c : Go.Call} (j : o.op = .call c) (i : c.callee = .builtin b) (e : b = if isMax then .max else .min) (d : c.args = #[x,y])
  {l f v : V} (s : zh g w r.st l (a.eval x)) (p : zh g w r.st f (a.eval y)) (h : zIq isMax l f = some v) :
  ∃ u,(execOp a.eval o).run P w = .ok (.value u) w ∧ zh g w r.st v u:=by
 unfold zIq at h;split at h
 ·rename_i k m t n
  split at h
  ·rename_i q
   subst q;injection h with h;subst h;obtain ⟨ex,_⟩:=z7 s;obtain ⟨ey,_⟩:=z7 p;cases isMax
   ·simp at e
    subst e;refine ⟨.int k (min m n),?_,zae rfl⟩;unfold execOp;simp [j,resolve,i,d,ex,ey,invoke,builtin,Builtin.min_,Builtin.min2];omega
   ·simp at e
    subst e;refine ⟨.int k (max m n),?_,zae rfl⟩;unfold execOp;simp [j,resolve,i,d,ex,ey,invoke,builtin,Builtin.max_,Builtin.max2];omega
  ·cases h
 ·cases h
end
section
variable {P : Program} {κ : List Tmp} {loc : List (Option Tmp)} {nt : Nat} {g : G} {w : World} {r r' : R} {a : Act} {o : Go.Oper} {d : D} {next : Act → World → Prop} {Q : Exit → Act → World → Prop}
theorem zAR {σ : zd} {id b i : Nat} {e : List C} (h : σ.elem id b i = some e) : ∃ sz es,σ[id]? = some (.cells b sz es) ∧ es[i]? = some e:=by
 unfold zd.elem at h;rw [ye] at h;obtain ⟨g,f,a⟩:=h;unfold Ob.elem at a;split at a
 ·rename_i c sz es
  split at a
  ·rename_i d
   subst d;exact ⟨sz,es,f,a⟩
  ·cases a
 ·cases a
theorem zrG (J : Rel g w r.st) {id n i off : Nat} {e : List C} {u : Value} (he : r.st.elem id n i = some e) (z : zh g w r.st (.one (.ptr id n i off)) u) :
  ∃ b o us,u = .pointer (some ⟨b,o + off,none⟩) ∧ us.length = e.length ∧ zA g w r.st e us ∧ (∀ v ∈ us,v.oneCell' = true) ∧ ∀ j v,us[j]? = some v → w.cell? ⟨b,o + j,none⟩ = some v:=by
 obtain ⟨sz,es,A,s⟩:=zAR he;have q : es ≠ []:=fun h => by subst h; simp at s
 obtain ⟨_,_,arr,t,B,M,I⟩:=J.ob id _ A q;simp only [zh,zF] at z;obtain ⟨v0,H,len,m,L,D,_⟩:=z;rw [zC A] at m;injection m with m;injection m with e1 m;injection m with e2 e3;subst e1 e2 e3;have hu:=D rfl;obtain ⟨E,a⟩:=I i e s;refine ⟨g.ρ id,i * sz,(yu e.length).map fun j => arr.getD (i * sz + j) undef,hu,by simp,zlm (by simp) fun j c v x d => ?_,fun v d => ?_,fun j v d => ?_⟩
 ·obtain ⟨y,l,K,_⟩:=a j c x
  rw [yi,yf (zb x)] at d;simp only [yn,Option.some.injEq] at d;rw [← d];simp only [yh,l,yk];exact K
 ·rw [List.mem_map] at d
  obtain ⟨j,p,rfl⟩:=d;rw [List.mem_range] at p;obtain ⟨y,l,_,G⟩:=a j _ (yc p);simp only [yh,l,yk];exact G
 ·rw [yi] at d
  have p:=d
  cases k : (yu e.length)[j]? with
  | none => rw [k] at d; cases d
  | some j' =>
    have f:=zb k;simp at f;rw [yf f] at k;injection k with k;subst k;rw [yf f] at d;simp only [yn,Option.some.injEq] at d;obtain ⟨y,l,_,_⟩:=a j _ (yc f);rw [ziJ B,l,← d];simp only [yh,l,yk]
theorem zlh {t : TypeId} {b : Bool} (h : zlM P t = some b) : (isAgg t).run P w = .ok b w:=by
 unfold zlM at h
 cases hu : P.underlying t with
 | none => simp [hu] at h
 | some de =>
   simp [hu] at h;subst h;unfold isAgg;rw [Sem.run_bind,run_underlying hu w];cases de <;> rfl
theorem zl0 {t : TypeId} {ad : Addr} {v : Value} (h : zlM P t = some false) (a : w.cell? ad = some v) : (Instr.loadAt t (.pointer (some ad))).run P w = .ok v w:=by
 simp [Instr.loadAt,Instr.sureAddr,loadVar,zlh (w:=w) h,a]
theorem ziG {t : TypeId} {b o n : Nat} {vs : List Value} (h : zlM P t = some true) (c : zjg P t = some n) (i : vs.length = n) (e : ∀ j v,vs[j]? = some v → w.cell? ⟨b,o + j,none⟩ = some v) :
  (Instr.loadAt t (.pointer (some ⟨b,o,none⟩))).run P w = .ok (.agg vs.toArray) w:=by
 have g : (loadCells ⟨b,o,none⟩ n).run P w = .ok vs.toArray w:=by
  rw [← i];exact run_loadCells_list (P:=P) w ⟨b,o,none⟩ vs (fun j v f => by rw [zaW]; exact e j v f)
 unfold zjg at c
 cases a : P.info? t with
 | none => simp [a] at c
 | some inf =>
   have d : inf.size = n:=(by simpa [a] using c);simp [Instr.loadAt,Instr.sureAddr,loadVar,zlh (w:=w) h,sizeOf,typeInfo,a,d,g]
theorem zpB {α : Type} {o n : Nat} {e x : List α} (h : cut o n e = some x) : o + n ≤ e.length ∧ x = (e.drop o).take n:=by
 unfold cut at h;split at h
 ·injection h with h; exact ⟨by assumption,h.symm⟩
 ·cases h
theorem zqF {σ : zd} {e : List C} {us : List Value} (h : zA g w σ e us) (o n : Nat) : zA g w σ ((e.drop o).take n) ((us.drop o).take n):=by
 have d:=zQ h;refine zlm (by simp [d]) fun j c u a hu => ?_;rw [yj] at a hu;split at a
 ·rw [if_pos (by assumption),yg] at hu
  rw [yg] at a;obtain ⟨i,b,f⟩:=zeo h a;rw [b] at hu;injection hu with hu;rw [← hu];exact f
 ·cases a
theorem zq7 {σ : zd} : ∀ {cs : List Fz} {us : List Value},us.length = cs.length → (∀ (j : Nat) (x : Fz) (u : Value),cs[j]? = some x → us[j]? = some u → rep w g.N x u) → zA g w σ (cs.map C.f) us
 | cs,us,hl,h => zlm (by simpa using hl) fun j c u a hu => by
   rw [yi,ya] at a;obtain ⟨x,b,rfl⟩:=a;simp only [zF];exact h j x u b hu
theorem zxK (J : Rel g w r.st) {t : TypeId} {x : Operand} {sz : Option Nat} (D : o.op = .load t x) (k : match sz with
   | none => zlM P t = some false
   | some n => zlM P t = some true ∧ zjg P t = some n)
  {K v : V} (d : zh g w r.st K (a.eval x)) (h : ald r.st sz K = some v) :
  ∃ u,(execOp a.eval o).run P w = .ok (.value u) w ∧ zh g w r.st v u:=by
 unfold ald at h;split at h
 ·
  rename_i id H i off;rw [ya] at h;obtain ⟨c,f,rfl⟩:=h;unfold zd.cell at f;rw [ye] at f;obtain ⟨e,f,I⟩:=f;obtain ⟨b,z,us,A,C,E,_,q⟩:=zrG J f d;obtain ⟨u,L,Q⟩:=zeo E I;refine ⟨u,?_,Q⟩;unfold execOp;simp only [D,A];simp [zl0 (P:=P) (w:=w) k (q off u L)]
 ·
  rename_i cs off;rw [ya] at h;obtain ⟨y,f,rfl⟩:=h;simp only [zh,zF] at d;obtain ⟨b,z,A,C⟩:=d;obtain ⟨u,_,B,q⟩:=zhw C f;refine ⟨u,?_,by simpa only [vf,zh,zF] using q⟩;unfold execOp;simp only [D,A];simp [zl0 (P:=P) (w:=w) k B]
 ·
  rename_i n id H i off;rw [ya] at h;obtain ⟨M,f,rfl⟩:=h;rw [ye] at f;obtain ⟨e,f,I⟩:=f;obtain ⟨hle,rfl⟩:=zpB I;obtain ⟨b,z,us,A,C,E,_,q⟩:=zrG J f d;refine ⟨.agg ((us.drop off).take n).toArray,?_,?_⟩
  ·unfold execOp
   simp only [D,A]
   simp [ziG (P:=P) (w:=w) (b:=b) (o:=z + off) (vs:=(us.drop off).take n) k.1 k.2 (by simp; omega) (fun j v m => by
    rw [yj] at m;split at m
    ·rw [yg] at m
     have:=q _ _ m
     rwa [← ym] at this
    ·cases m)]
  ·simp only [zh]
   exact ⟨_,rfl,by simpa using zqF E off n⟩
 ·rename_i n cs off
  rw [ya] at h;obtain ⟨M,f,rfl⟩:=h;obtain ⟨hle,rfl⟩:=zpB f;simp only [zh,zF] at d;obtain ⟨b,z,A,C⟩:=d
  have l : ∀ j,j < n → ∃ u,w.cell? ⟨b,z + off + j,none⟩ = some u ∧ ∀ x,cs[off + j]? = some x → rep w g.N x u:=fun j G => by
   obtain ⟨u,_,B,q⟩:=zhw C (yc (by omega : off + j < cs.length));refine ⟨u,by rwa [ym],fun x d => ?_⟩;rw [yc (by omega : off + j < cs.length)] at d;injection d with d;rw [← d]; exact q
  let us : List Value:=(yu n).map fun j => (w.cell? ⟨b,z + off + j,none⟩).getD undef
  refine ⟨.agg us.toArray,?_,?_⟩
  ·unfold execOp
   simp only [D,A]
   simp [ziG (P:=P) (w:=w) (b:=b) (o:=z + off) (vs:=us) k.1 k.2 (by simp [us]) (fun j v m => by
    simp only [us,yi,ya] at m;obtain ⟨R,p,m⟩:=m;have s:=zb p;simp at s;rw [yf s] at p;injection p with p;subst p;obtain ⟨u,B,_⟩:=l j s;rw [B] at m ⊢
    simpa using m)]
  ·simp only [zDc,zh]
   refine ⟨us.toArray,rfl,zq7 (by simp [us]; omega) fun j x u d hu => ?_⟩;rw [yj] at d;split at d
   ·rename_i G
    rw [yg] at d;obtain ⟨O,B,q⟩:=l j G
    have : us[j]? = some O:=by
     simp only [us,yi,yf G,yn,B,yk]
    rw [show us.toArray.toList = us from by simp,this] at hu;injection hu with hu;rw [← hu];exact q x d
   ·cases d
 ·cases h
theorem zCc {t : TypeId} {x : Operand} {i off : Nat} {sz : Option Nat} {fs : Array Field} {f : Field} (A : o.op = .field t x i) (z : P.underlying t = some (.struct fs)) (y : fs[i]? = some f) (d : f.offset = off)
  (b : match sz with
   | none => zlM P f.type = some false
   | some n => zlM P f.type = some true ∧ zjg P f.type = some n)
  {B v : V} (k : zh g w r.st B (a.eval x)) (h : zxz off sz B = some v) :
  ∃ u,(execOp a.eval o).run P w = .ok (.value u) w ∧ zh g w r.st v u:=by
 subst d;unfold zxz at h;split at h
 ·rename_i cs
  rw [ya] at h;obtain ⟨c,s,rfl⟩:=h;simp only [zh] at k;obtain ⟨us,e,l⟩:=k;obtain ⟨u,E,C⟩:=zeo l s;have m : us[f.offset]? = some u:=by simpa using E
  refine ⟨u,?_,C⟩;unfold execOp;simp [A,e,Instr.field,run_underlying z,y,asAgg,part,zlh (w:=w) b,m]
 ·rename_i n cs
  rw [ya] at h;obtain ⟨D,s,rfl⟩:=h;obtain ⟨hle,rfl⟩:=zpB s;simp only [zh] at k;obtain ⟨us,e,l⟩:=k;refine ⟨.agg (us.extract f.offset (f.offset + n)),?_,?_⟩
  ·have q:=b.2
   unfold zjg at q
   cases p : P.info? f.type with
   | none => simp [p] at q
   | some inf =>
     have j : inf.size = n:=(by simpa [p] using q);unfold execOp;simp [A,e,Instr.field,run_underlying z,y,asAgg,part,zlh (w:=w) b.1,sizeOf,typeInfo,p,j]
  ·simp only [zh]
   refine ⟨_,rfl,?_⟩;have:=zqF l f.offset n
   have e2 : (us.extract f.offset (f.offset + n)).toList = (us.toList.drop f.offset).take n:=by
    rw [Array.toList_extract];simp [List.extract,Nat.add_sub_cancel_left]
   rw [e2];exact this
 ·cases h
def zBz (κ : List Tmp) (loc : List (Option Tmp)) : List Operand → List X → Bool
 | [],[] => true
 | x :: xs,y :: ys => okX κ loc x y && zBz κ loc xs ys
 | _,_ => false
theorem Fr.gets (F : Fr κ loc nt g w r a) : ∀ {xs : List Operand} {ys : List X},zBz κ loc xs ys = true → zO g w r.st (r.gets ys) (xs.map a.eval)
 | [],[],_ => by simp [R.gets,zO]
 | x :: xs,y :: ys,h => by
   simp only [zBz,yl] at h;simp only [R.gets,zO,yr];exact ⟨_,_,rfl,F.get h.1,F.gets h.2⟩
 | [],_ :: _,h => by simp [zBz] at h
 | _ :: _,[],h => by simp [zBz] at h
theorem ztM {σ : zd} : ∀ {vs : List V} {us : List Value},zO g w σ vs us → zA g w σ (vs.map V.c1) us
 | [],us,h => by simpa only [zO,zA,List.map_nil] using h
 | v :: vs,us,h => by
   simp only [zO] at h;obtain ⟨x,xs,rfl,a,b⟩:=h;simp only [yr,zA];refine ⟨x,xs,rfl,?_,ztM b⟩
   cases v with
   | one c => simpa only [V.c1,zh] using a
   | agg cs => simp only [V.c1,zF]
   | tup cs => simp only [V.c1,zF]
theorem zBo (F : Fr κ loc nt g w r a) {f : Nat} {first d : Array Operand} {b c : List X} (e : o.op = .makeFunc (.func f) first d) (h : zBz κ loc first.toList b = true) (i : zBz κ loc d.toList c = true) :
  ∃ u,(execOp a.eval o).run P w = .ok (.value u) w ∧ zh g w r.st (.one (.fn f ((r.gets b).map V.c1) ((r.gets c).map V.c1))) u:=by
 refine ⟨.func (.func f) (first.map a.eval) (d.map a.eval),?_,?_⟩
 ·unfold execOp
  simp [e,Instr.makeFunc]
 ·simp only [zh,zF]
  exact ⟨_,_,rfl,by simpa using ztM (F.gets h),by simpa using ztM (F.gets i)⟩
end
structure Low (base lim : Nat) (σ : zd) : Prop where
 le : True
theorem Low.append {base lim : Nat} {σ : zd} (_ : Low base lim σ) (os : List Ob) : Low base lim (σ ++ os):=⟨trivial⟩
theorem Low.set {base lim : Nat} {σ : zd} (_ : Low base lim σ) {id : Nat} {o : Ob} : Low base lim (σ.set id o):=⟨trivial⟩
def zrj (κ : List Tmp) (loc : List (Option Tmp)) (nt : Nat) (g : G) (w : World) (r r' : R) (pa : Value → Act) (next : Act → World → Prop) : Prop :=
 ∀ g' w' u,Ext g w r.st g' w' r'.st → Rel g' w' r'.st → Low r.base r.lim r'.st → Fr κ loc nt g' w' r' (pa u) → next (pa u) w'
section
variable {P : Program} {κ : List Tmp} {loc : List (Option Tmp)} {nt : Nat} {g : G} {w : World} {r r' : R} {a : Act} {o : Go.Oper} {d : D} {next : Act → World → Prop} {Q : Exit → Act → World → Prop}
theorem znK (e : Rel g w r.st) (L : Low r.base r.lim r.st) (F : Fr κ loc nt g w r a) (hd : okD κ nt o.dst d = true) {v : V} {u : Value} (b : (execOp a.eval o).run P w = .ok (.value u) w) (c : zh g w r.st v u)
  (k : zrj κ (zbp o.dst d :: loc) nt g w r (r.put d v) (a.put o.dst) next) : o.wp P a w next Q:=by
 refine zm1 b (k g w _ ?_ ?_ ?_ (F.put hd fun _ => c)) <;> rw [zfw]
 ·exact Ext.refl _ _ _
 ·exact e
 ·exact L
theorem zcy {g' : G} {w' : World} {r1 : R} (F : Fr κ loc nt g w r a) (hd : okD κ nt o.dst d = true) (H : Ext g w r.st g' w' r1.st) (f : Rel g' w' r1.st) (h : Low r.base r.lim r1.st) (he : r1.env = r.env) (c : r1.rs = r.rs)
  {v : V} {u : Value} (b : (execOp a.eval o).run P w = .ok (.value u) w') (e : zh g' w' r1.st v u)
  (k : zrj κ (zbp o.dst d :: loc) nt g w r (r1.put d v) (a.put o.dst) next) : o.wp P a w next Q:=by
 refine zm1 b (k g' w' _ ?_ ?_ ?_ ((F.ext H he c).put hd fun _ => e)) <;> rw [zfw]
 ·exact H
 ·exact f
 ·exact h
theorem ztW {g' : G} {w' : World} {r1 : R} (F : Fr κ loc nt g w r a) (hd : okD κ nt o.dst d = true) (c : d = .no) (H : Ext g w r.st g' w' r1.st) (f : Rel g' w' r1.st) (i : Low r.base r.lim r1.st) (he : r1.env = r.env) (e : r1.rs = r.rs)
  (b : (execOp a.eval o).run P w = .ok .skip w') (k : zrj κ (zbp o.dst d :: loc) nt g w r (r1.put d vun) (a.put o.dst) next) : o.wp P a w next Q:=by
 refine zyd b (k g' w' _ ?_ ?_ ?_ ((F.ext H he e).put hd fun h => absurd c h)) <;> rw [zfw]
 ·exact H
 ·exact f
 ·exact i
theorem ztk {N : zgY} {x : Fz} {u : Value} (h : rep w N x u) : u.oneCell' = true:=by
 cases x with
 | lit v =>
   simp only [rep] at h;rw [h.1];have:=h.2;cases v <;> simp_all [zBx,Value.oneCell']
 | sl xs =>
   obtain ⟨_,_,e,_⟩:=zkQ h;rw [e];rfl
theorem zxA {σ : zd} {c : C} {u : Value} (h : zF g w σ c u) (a : c ≠ .un) : u.oneCell' = true:=by
 cases c with
 | f x => simp only [zF] at h; exact ztk h
 | ap t k xs => simp only [zF] at h; exact ztk h.1
 | ptr id ver i off => simp only [zF] at h; obtain ⟨_,_,_,_,_,_,_,e⟩:=h; rw [e]; rfl
 | fp cs off => simp only [zF] at h; obtain ⟨_,_,e,_⟩:=h; rw [e]; rfl
 | own id ver lo n => simp only [zF] at h; obtain ⟨_,_,_,_,_,_,_,_,e⟩:=h; rw [e]; rfl
 | map id => simp only [zF] at h; rw [h.2]; rfl
 | fn f x y => simp only [zF] at h; obtain ⟨_,_,e,_⟩:=h; rw [e]; rfl
 | un => exact absurd rfl a
theorem zCE : ∀ {cs : List C},C.kns cs = true → ∀ c ∈ cs,c ≠ .un
 | [],_,c,h => by simp at h
 | x :: cs,hk,c,h => by
   cases x <;> simp only [C.kns] at hk <;> first
    | (cases hk; done)
    | (rcases yq.1 h with rfl | h
       ·simp
       ·exact zCE hk c h)
theorem zBV {σ : zd} {cs : List C} {us : List Value} (h : zA g w σ cs us) (d : C.kns cs = true) : ∀ u ∈ us,u.oneCell' = true:=fun u hu => by
 obtain ⟨j,c⟩:=List.mem_iff_getElem?.1 hu;have a:=zb c;rw [zQ h] at a;obtain ⟨f,b,e⟩:=zeo h (yc a);rw [c] at b;injection b with b;subst b;exact zxA e (zCE d _ (yo a))
theorem zuz {u : Value} (h : u.oneCell' = true) : u.cells = #[u]:=by cases u <;> simp_all [Value.oneCell',Value.cells]
theorem zjc {σ : zd} {v : V} {u : Value} (h : zh g w σ v u) (d : C.kns v.cells = true) (j : 0 < v.cells.length) : zA g w σ v.cells u.cells.toList ∧ ∀ x ∈ u.cells.toList,x.oneCell' = true:=by
 cases v with
 | one c =>
   simp only [zh] at h;have i : c ≠ .un:=zCE (cs:=[c]) d c (by simp);have f:=zxA h i;rw [zuz f];simp only [V.cells,zA];exact ⟨⟨u,[],rfl,h,rfl⟩,fun x a => by simp at a; rw [a]; exact f⟩
 | agg cs =>
   simp only [zh] at h;obtain ⟨us,e,b⟩:=h;rw [e];exact ⟨b,zBV b d⟩
 | tup vs => simp [V.cells] at j
mutual
theorem zn4 {σ : zd} : ∀ (c : C) (u : Value),zF g w σ c u → c.lt σ.length = true
 | .f _,_,_ => by simp [C.lt]
 | .ap t k xs,u,h => by
   simp only [zF] at h;obtain ⟨_,n,d,_⟩:=h;obtain ⟨_,_,a,_⟩:=zdR d;simpa [C.lt] using zb a
 | .ptr id ver i off,u,h => by
   simp only [zF] at h;obtain ⟨_,_,_,b,_⟩:=h;obtain ⟨_,a,_⟩:=za9 b;simpa [C.lt] using zb a
 | .fp _ _,_,_ => by simp [C.lt]
 | .own id ver lo n,u,h => by
   simp only [zF] at h;obtain ⟨_,_,_,b,_⟩:=h;obtain ⟨_,a,_⟩:=za9 b;simpa [C.lt] using zb a
 | .map id,u,h => by
   simp only [zF] at h;obtain ⟨⟨_,a⟩,_⟩:=h;simpa [C.lt] using zb a
 | .fn f x y,u,h => by
   simp only [zF] at h;obtain ⟨fs,cs,_,d,a⟩:=h;simp [C.lt,zpx x _ d,zpx y _ a]
 | .un,_,_ => by simp [C.lt]
theorem zpx {σ : zd} : ∀ (cs : List C) (us : List Value),zA g w σ cs us → C.lts σ.length cs = true
 | [],_,_ => by simp [C.lts]
 | c :: cs,us,h => by
   simp only [zA] at h;obtain ⟨v,vs,_,b,a⟩:=h;simp [C.lts,zn4 c v b,zpx cs vs a]
end
theorem zCo {n : Nat} : ∀ {cs : List C},C.lts n cs = true ↔ ∀ c ∈ cs,c.lt n = true
 | [] => by simp [C.lts]
 | c :: cs => by simp [C.lts,zCo]
theorem zxZ {n : Nat} : ∀ {es : List (List C)},C.ltss n es = true ↔ ∀ e ∈ es,C.lts n e = true
 | [] => by simp [C.ltss]
 | c :: cs => by simp [C.ltss,zxZ]
theorem zqV {t : TypeId} {b o : Nat} {arr : Array Value} {ty : TypeId} {u : Value} {n : Nat} (e : zjg P t = some n) (g : u.cells.size = n) (i : w.heap[b]? = some (.cells arr ty (0,0))) (a : o + n ≤ arr.size) (h : ∀ x ∈ u.cells.toList,x.oneCell' = true) :
  (Instr.storeAt t (.pointer (some ⟨b,o,none⟩)) u).run P w = .ok () (w.setRow b (zcq arr o u.cells.toList)):=by
 have c:=run_storeCells_at P b o ty u.cells.toList 0 arr w i (by simpa [g] using a) h;simp only [Nat.add_zero] at c;unfold zjg at e
 cases d : P.info? t with
 | none => simp [d] at e
 | some inf =>
   have f : inf.size = n:=(by simpa [d] using e);simp [Instr.storeAt,Instr.sureAddr,storeVar,sizeOf,typeInfo,d,f,g,c,zcq]
theorem zEz (X : Rel g w r.st) (L : Low r.base r.lim r.st) (F : Fr κ loc nt g w r a) {t : TypeId} {x v : Operand} {sz : Nat} (S : o.op = .store t x v) (hd : okD κ nt o.dst d = true) (A : d = .no) (W : zjg P t = some sz) (h0 : 0 < sz)
  {G B : V} (E : zh g w r.st G (a.eval x)) (J : zh g w r.st B (a.eval v)) {r1 : R} (h : ast r sz B.cells G = some r1)
  (k : zrj κ (zbp o.dst d :: loc) nt g w r (r1.put d vun) (a.put o.dst) next) : o.wp P a w next Q:=by
 unfold ast at h;split at h
 ·rename_i id U i off
  split at h
  ·rename_i hlen
   unfold R.write at h;split at h
   ·rename_i l
    rw [ya] at h;obtain ⟨O,y,rfl⟩:=h;rw [ye] at y;obtain ⟨ob,y,b⟩:=y;unfold Ob.write at b;split at b
    ·rename_i q f es
     split at b
     ·rename_i s
      subst s;rw [ya] at b;obtain ⟨M,b,rfl⟩:=b;rw [ye] at b;obtain ⟨e,b,I⟩:=b;obtain ⟨D,C⟩:=zjc J l (by omega);obtain ⟨arr,ty,Y,c,H,N⟩:=zwR X y b I D C
      have p : a.eval x = .pointer (some ⟨g.ρ id,i * f + off,none⟩):=by
       simp only [zh,zF] at E;obtain ⟨v0,s0,Z,m1,_,K,_⟩:=E;rw [zC y] at m1;injection m1 with m1;injection m1 with e1 m1;injection m1 with e2 e3;subst e1 e2;exact K rfl
      have z:=zQ D;have j : (a.eval v).cells.size = sz:=(by rw [← hlen,← z]; simp);refine ztW (r1:=r.setOb id (upd q f i es M)) F hd A H N L.set rfl rfl ?_ k
      ·unfold execOp
       simp only [S,p];have m:=zqV (P:=P) (w:=w) (u:=a.eval v) (n:=sz) (o:=i * f + off) W j Y (by rw [z,hlen] at c; exact c) C;simp only [Sem.run_bind,m,Result.andThen_ok,Sem.run_pure]
     ·cases b
    ·cases b
   ·cases h
  ·cases h
 ·cases h
end
def zeroOf (P : Program) (t : TypeId) : Option (List Value):=((P.info? t).bind (·.zero)).map fun z => z.cells.toList
def zjM (zs : List Value) : List (Nat × Nat) → Bool
 | [] => true
 | j :: js => (match zs[j.1]? with
   | some (.slice none 0 0) => true
   | _ => false) && zjM zs js
def G.nils (g : G) (t : Nat) (f : Nat → Value) : G:={ g with tv:=fun t' k => if t' = t then f k else g.tv t' k }
section
variable {g : G} {w : World} {σ : zd}
theorem zxt (R : Rel g w σ) (ob : Ob) (f : Nat → Value) (e : ∀ {σ' : zd},Ext g w σ (g.nils σ.length f) w σ' → zDd (g.nils σ.length f) w σ' σ.length ob) :
  Ext g w σ (g.nils σ.length f) w (σ ++ [ob]) ∧ Rel (g.nils σ.length f) w (σ ++ [ob]):=by
 have c : ∀ t k,t < σ.length → (g.nils σ.length f).tv t k = g.tv t k:=fun t k h => by
  show (if t = σ.length then f k else g.tv t k) = _
  rw [if_neg (by omega)]
 have H : Ext g w σ (g.nils σ.length f) w (σ ++ [ob]):={
  os:=rfl
  tape:=rfl
  output:=rfl
  size:=yd _
  keeps:=fun _ _ h => ⟨h,rfl⟩
  len:=by simp
  shape:=fun id j sz len h => by
   obtain ⟨es,a,_⟩:=za9 h;exact .inl ⟨by unfold shapeOf; rw [yb (zb a)]; exact h,rfl,fun _ arr t i => ⟨arr,i,rfl⟩⟩
  map:=fun id es h => ⟨rfl,es,by rw [yb (zb h)]; exact h⟩
  tok:=fun t k n h => by
   obtain ⟨sz,fr,a,l⟩:=zdR h;exact ⟨n,zew (by rw [yb (zb a)]; exact a) l,yd _,fun _ => c t k (zb a)⟩
  tsz:=fun t sz h => by
   obtain ⟨fr,a⟩:=zfS h;exact zde (fr:=fr) (by rw [yb (zb a)]; exact a)
  ow:=fun _ _ => rfl
  new:=fun _ _ h _ _ => h
  frame:=fun _ _ _ => rfl }
 refine ⟨H,⟨R.nb,fun id o h => ?_⟩⟩
 by_cases b : id < σ.length
 ·rw [yb b] at h
  exact zcl H rfl (fun k => c id k b) (fun _ _ _ => ⟨rfl,rfl,fun _ h => h⟩) (R.ob id o h)
 ·have d : id = σ.length:=by
   have:=zb h;simp at this;omega
  subst d;simp at h;subst h;exact e H
theorem G.nils_tv (g : G) (t k : Nat) (f : Nat → Value) : (g.nils t f).tv t k = f k:=by
 show (if t = t then f k else _) = _
 rw [if_pos rfl]
theorem zs1 (R : Rel g w σ) (sz : Nat) (fr : List Nat) (f : Nat → Value) (c : ∀ k n,fr[k]? = some n → n = 0 ∧ ∃ a,f k = .slice a 0 0) :
  Ext g w σ (g.nils σ.length f) w (σ ++ [.tok sz fr]) ∧ Rel (g.nils σ.length f) w (σ ++ [.tok sz fr]) :=
 zxt R _ f fun _ => fun k n e => by
  obtain ⟨d,a,b⟩:=c k n e;exact .inl ⟨d,a,by rw [G.nils_tv]; exact b⟩
theorem zjF : ∀ fresh : List (Nat × Nat),(tokens fresh).length = fresh.length
 | [] => rfl
 | _ :: js => by simp [tokens,zjF js]
theorem zjv : ∀ (fresh : List (Nat × Nat)) (t : Nat) (cs : List C),(zgP t fresh cs).length = cs.length
 | [],_,_ => rfl
 | _ :: js,t,cs => by rw [zgP,zjv js]; simp
theorem zqA {cs : List C} {us : List Value} {j : Nat} {c : C} {u : Value} (h : zA g w σ cs us) (hu : us[j]? = some u) (k : zF g w σ c u) : zA g w σ (cs.set j c) us:=by
 have f:=zQ h;refine zlm (by simpa using f) fun i x v b a => ?_;rw [List.getElem?_set] at b
 by_cases e : j = i
 ·subst e
  have d : j < cs.length:=by rw [← f]; exact zb hu
  simp [d] at b;subst b;rw [hu] at a;injection a with a;rw [← a];exact k
 ·rw [if_neg e] at b
  obtain ⟨v',m,l⟩:=zeo h b;rw [m] at a;injection a with a;rw [← a];exact l
theorem zty {N : zgY} : rep w N (.sl []) (.slice none 0 0):=by
 rw [rep];exact ⟨none,0,0,rfl,yd _,by simp only [zcs],.inl rfl⟩
theorem zsY {σ : zd} (R : Rel g w σ) (sz : Nat) : Ext g w σ (g.nils σ.length fun _ => undef) w (σ ++ [.cells 0 sz []]) ∧ Rel (g.nils σ.length fun _ => undef) w (σ ++ [.cells 0 sz []]) :=
 zxt R _ _ fun _ h => absurd rfl h
theorem zGq {σ : zd} {sz n q : Nat} (a : q < n) (g : G) : zF g w (σ ++ yp n (.cells 0 sz [])) (.own (σ.length + q) 0 0 0) (.slice none 0 0):=by
 rw [zF]
 have b : shapeOf (σ ++ yp n (.cells 0 sz [])) (σ.length + q) = some (0,sz,0):=by
  unfold shapeOf;rw [List.getElem?_append_right (by omega),show σ.length + q - σ.length = q by omega,List.getElem?_replicate,if_pos a];rfl
 exact ⟨0,sz,0,b,yd _,fun _ => ⟨none,0,rfl,yd _,fun _ => rfl,fun h => absurd rfl h⟩,_,_,rfl⟩
theorem zsV : ∀ (fresh : List (Nat × Nat)) {g : G} {σ : zd} {cs : List C} {a : List Value},Rel g w σ → zjM a fresh = true → zA g w σ cs a →
  ∃ g',Ext g w σ g' w (σ ++ tokens fresh) ∧ Rel g' w (σ ++ tokens fresh) ∧ zA g' w (σ ++ tokens fresh) (zgP σ.length fresh cs) a
 | [],g,σ,cs,a,R,_,h => ⟨g,by simpa [tokens] using Ext.refl g w σ,by simpa [tokens] using R,by simpa [tokens,zgP] using h⟩
 | j :: js,g,σ,cs,a,R,hf,h => by
   simp only [zjM,yl] at hf;obtain ⟨p,b⟩:=hf
   have o : a[j.1]? = some (.slice none 0 0):=by
    split at p
    ·assumption
    ·cases p
   by_cases c : 4096 ≤ j.2
   ·obtain ⟨H1,l⟩:=zsY R (j.2 - 4096)
    have d : zF (g.nils σ.length fun _ => undef) w (σ ++ [.cells 0 (j.2 - 4096) []]) (zG4 σ.length j.2) (.slice none 0 0):=by
     rw [zG4,if_pos c];have:=zGq (σ:=σ) (sz:=j.2 - 4096) (n:=1) (q:=0) (w:=w) (by omega) (g.nils σ.length fun _ => undef);simpa using this
    obtain ⟨g',i,f,m⟩:=zsV js l b (zqA (H1.zA _ _ h) o d);refine ⟨g',?_,?_,?_⟩
    ·have:=H1.trans i
     simpa [tokens,zFy,if_pos c] using this
    ·simpa [tokens,zFy,if_pos c] using f
    ·simpa [tokens,zFy,if_pos c,zgP] using m
   ·obtain ⟨H1,l⟩:=zs1 R j.2 [0] (fun _ => .slice none 0 0) (fun k n e => ⟨by
     cases k with
     | zero => simp at e; exact e.symm
     | succ k => simp at e,none,rfl⟩)
    have d : zF (g.nils σ.length fun _ => .slice none 0 0) w (σ ++ [.tok j.2 [0]]) (zG4 σ.length j.2) (.slice none 0 0):=by
     rw [zG4,if_neg c,zF];refine ⟨zty,0,zew (sz:=j.2) (fr:=[0]) (by simp) (by simp),yd _,fun _ => ?_,j.2,zde (fr:=[0]) (by simp),by simp only [zcs]⟩
     show _ = if σ.length = σ.length then _ else _
     rw [if_pos rfl]
    obtain ⟨g',i,f,m⟩:=zsV js l b (zqA (H1.zA _ _ h) o d);refine ⟨g',?_,?_,?_⟩
    ·have:=H1.trans i
     simpa [tokens,zFy,if_neg c] using this
    ·simpa [tokens,zFy,if_neg c] using f
    ·simpa [tokens,zFy,if_neg c,zgP] using m
theorem ziZ (R : Rel g w σ) {sz : Nat} {es : List (List C)} {us : List Value} (t : TypeId) (d : us.length = es.length * sz) (a : zdS g w σ us.toArray sz es) :
  Ext g w σ (g.own σ.length w.heap.size) (w.alloc (.cells us.toArray t)) (σ ++ [.cells 0 sz es]) ∧ Rel (g.own σ.length w.heap.size) (w.alloc (.cells us.toArray t)) (σ ++ [.cells 0 sz es]) :=
 zvC R (.cells 0 sz es) (.cells us.toArray t) fun H b e c _ => ⟨by rw [b]; exact e,by rw [b]; exact c,us.toArray,t,by rw [b]; exact zaP w _,by simp [d],H.zdS a⟩
theorem zlv (σ : zd) (o : Ob) : (σ ++ [o])[σ.length]? = some o:=by simp
theorem zvm {sz : Nat} {es : List (List C)} (o : Obj) : zh (g.own σ.length w.heap.size) (w.alloc o) (σ ++ [.cells 0 sz es]) (.one (.ptr σ.length 0 0 0)) (.pointer (some ⟨w.heap.size,0,none⟩)):=by
 simp only [zh,zF];exact ⟨0,sz,es.length,zC (zlv σ _),yd _,fun _ => by simp [G.own],_,rfl⟩
theorem zqp {sz : Nat} {es : List (List C)} {us : List Value} (t : TypeId) (a : us.length = es.length * sz) :
  zh (g.own σ.length w.heap.size) (w.alloc (.cells us.toArray t)) (σ ++ [.cells 0 sz es]) (.one (.own σ.length 0 0 es.length)) (.slice (some ⟨w.heap.size,0,none⟩) es.length es.length):=by
 simp only [zh,zF];refine ⟨0,sz,es.length,zC (zlv σ _),yd _,fun _ => ⟨_,_,rfl,yd _,fun h => h,fun _ => ⟨by omega,fun _ => by simp [G.own],us.toArray,t,?_,by simp [a]⟩⟩,_,_,rfl⟩;simpa [G.own] using zaP w (.cells us.toArray t)
theorem zoG {cs : List C} {us : List Value} (h : zA g w σ cs us) (k : ∀ u ∈ us,u.oneCell' = true) : zdS g w σ us.toArray cs.length [cs]:=fun i e a => by
 cases i with
 | succ i => simp at a
 | zero =>
   simp at a;subst a;refine ⟨rfl,fun j c d => ?_⟩;obtain ⟨u,b,f⟩:=zeo h d;exact ⟨u,by simpa using b,f,k u (List.mem_of_getElem? b)⟩
theorem zAE (R : Rel g w σ) {sz : Nat} {xs : List (List Fz)} {us : List Value} (t : TypeId) (q : Lay w g.N sz xs us) :
  ∃ g',Ext g w σ g' (w.alloc (.cells us.toArray t)) (σ ++ [.tok sz [xs.length]]) ∧ Rel g' (w.alloc (.cells us.toArray t)) (σ ++ [.tok sz [xs.length]]) ∧
    zh g' (w.alloc (.cells us.toArray t)) (σ ++ [.tok sz [xs.length]]) (.one (.ap σ.length 0 xs)) (.slice (some ⟨w.heap.size,0,none⟩) xs.length xs.length):=by
 let g' : G:={ g with tv:=fun c k => if c = σ.length then .slice (some ⟨w.heap.size,0,none⟩) xs.length xs.length else g.tv c k,ow:=zvM g.ow w.heap.size (.tk σ.length 0),N:=fun b o => g.N b o ∨ (b = w.heap.size ∧ o < xs.length * sz) }
 have f : ∀ b,b < w.heap.size → g'.ow b = g.ow b:=fun b m => zas g.ow (k:=w.heap.size) (i:=b) _ (by omega);have x : ∀ b o,b < w.heap.size → (g'.N b o ↔ g.N b o):=fun b o m => ⟨fun h => h.elim id fun h => by omega,.inl⟩
 have p : ∀ c k,c < σ.length → g'.tv c k = g.tv c k:=fun c k h => by
  show (if c = σ.length then _ else g.tv c k) = _
  rw [if_neg (by omega)]
 have e : ∀ k,g'.tv σ.length k = .slice (some ⟨w.heap.size,0,none⟩) xs.length xs.length:=fun k => by
  show (if σ.length = σ.length then _ else _) = _
  rw [if_pos rfl]
 have H : Ext g w σ g' (w.alloc (.cells us.toArray t)) (σ ++ [.tok sz [xs.length]]) :=
  Ext.alloc R _ g' (fun _ _ => rfl) (fun c k n h => p c k (by obtain ⟨_,_,z,_⟩:=zdR h; exact zb z)) f x _
 have l:=zaP w (.cells us.toArray t);refine ⟨g',H,⟨fun b o h => ?_,fun id o h => ?_⟩,?_⟩
 ·rw [size_alloc]
  rcases h with h | h
  ·have:=R.nb b o h; omega
  ·omega
 ·by_cases d : id < σ.length
  ·rw [yb d] at h
   exact zcl H rfl (fun k => p id k d) (fun b m _ => ⟨heap_alloc_old w _ m,f b m,fun o => (x b o m).1⟩) (R.ob id o h)
  ·have s : id = σ.length:=by
    have:=zb h;simp at this;omega
   subst s;simp at h;subst h;intro k n u
   cases k with
   | succ k => simp at u
   | zero =>
     simp at u;subst u;rw [e];rcases Nat.eq_zero_or_pos xs.length with r | r
     ·exact .inl ⟨r,_,by rw [r]⟩
     ·refine .inr ⟨_,_,_,us.toArray,t,rfl,r,yd _,zeV _ _ _,l,by simp [q.1],fun A a => ?_⟩
      rcases a with a | a
      ·exact absurd (R.nb _ _ a) (Nat.lt_irrefl _)
      ·have:=a.2; omega
 ·simp only [zh,zF]
  refine ⟨zxU q.2.1 (yd _) (zmy q H.keeps fun j v y => ?_),xs.length,zew (sz:=sz) (fr:=[xs.length]) (by simp) (by simp),yd _,fun _ => (e 0).symm,sz,zde (fr:=[xs.length]) (by simp),q.2.1⟩;have d:=zb y;rw [q.1] at d;refine ⟨.inr ⟨rfl,by omega⟩,?_⟩;rw [yt,ziJ l];simpa using y
theorem zEa (R : Rel g w σ) {sz : Nat} {xs : List (List Fz)} {us : List Value} (t : TypeId) (a : Lay w g.N sz xs us) :
  ∃ g',Ext g w σ g' (w.alloc (.cells us.toArray t)) σ ∧ Rel g' (w.alloc (.cells us.toArray t)) σ ∧
    zh g' (w.alloc (.cells us.toArray t)) σ (vsl xs) (.slice (some ⟨w.heap.size,0,none⟩) xs.length xs.length):=by
 obtain ⟨H,c⟩:=zu3 R (.cells us.toArray t);refine ⟨_,H,c,?_⟩;simp only [vsl,zh,zF];refine zxU a.2.1 (yd _) (zmy a H.keeps fun j v b => ⟨.inr rfl,?_⟩);rw [yt,ziJ (zaP w _)];simpa using b
end
end Go.A

/- A part of the proof of SchedTells. Conditions: none. -/
import Derived.Test.YtmkncmffaaninaaGreatTAC
import Derived.Deep.MidRow
import Derived.Laws.AppendOwn
import Derived.Laws.MakeOwn
set_option linter.all false
open Option renaming map_eq_some_iff → ya,bind_eq_some_iff → ye,getD_some → yk,map_some → yn
open List renaming getElem?_append_left → yb,getElem?_eq_getElem → yc,getElem?_range → yf,getElem?_drop → yg,getElem?_map → yi,getElem?_take → yj,getElem_mem → yo,replicate → yp,mem_cons → yq,map_cons → yr,range → yu
open Nat renaming le_refl → yd,add_assoc → ym,zero_add → yt,add_mul → yv
open Array renaming getD_eq_getD_getElem? → yh
open Bool renaming and_eq_true → yl
namespace Go.A
section
variable {P : Program} {κ : List Tmp} {loc : List (Option Tmp)} {nt : Nat} {g : G} {w : World} {r r' : R} {a : Act} {o : Go.Oper} {d : D} {next : Act → World → Prop} {Q : Exit → Act → World → Prop}
theorem zy4 {v : V} {u : Value} {n : Nat} {σ : zd} (a : zf g w σ v u) (h : zEb v = some n) : ∃ k,u = .int k (n : Int):=by
 unfold zEb at h;split at h
 ·rename_i k m
  split at h
  ·injection h with h
   obtain ⟨e,_⟩:=zQ a;exact ⟨k,by rw [e,← h,Int.toNat_of_nonneg (by assumption)]⟩
  ·cases h
 ·cases h
theorem run_sliceBound {k : IntKind} {n y : Nat} (c : BoundsCode) (h : n ≤ y) : (Instr.sliceBound (.int k n) y c).run P w = .ok n w:=by
 have a : (n : Int) ≤ (y : Int):=by omega
 simp [Instr.sliceBound,asIntOf,a]
theorem zq3 (b : Bool) {len cap lo e : Nat} {f c a : Option Value} (d : (f = none ∧ lo = 0) ∨ ∃ k,f = some (.int k lo)) (g : (c = none ∧ a = none ∧ e = len) ∨ ∃ k,c = some (.int k e))
  (j : a = none ∨ a = c) (i : lo ≤ e) (h : e ≤ cap) :
  (Instr.sliceBounds b len cap f c a).run P w = .ok (lo,e,if a.isSome then e else cap) w:=by
 rcases j with rfl | rfl
 ·rcases g with ⟨rfl,_,rfl⟩ | ⟨k,rfl⟩
  ·rcases d with ⟨rfl,rfl⟩ | ⟨l,rfl⟩
   ·simp [Instr.sliceBounds]
   ·simp [Instr.sliceBounds,run_sliceBound _ i]
  ·rcases d with ⟨rfl,rfl⟩ | ⟨l,rfl⟩
   ·simp [Instr.sliceBounds,run_sliceBound _ h]
   ·simp [Instr.sliceBounds,run_sliceBound _ i,run_sliceBound _ h]
 ·rcases g with ⟨rfl,_,rfl⟩ | ⟨k,rfl⟩
  ·rcases d with ⟨rfl,rfl⟩ | ⟨l,rfl⟩
   ·simp [Instr.sliceBounds]
   ·simp [Instr.sliceBounds,run_sliceBound _ i]
  ·rcases d with ⟨rfl,rfl⟩ | ⟨l,rfl⟩
   ·simp [Instr.sliceBounds,run_sliceBound _ h,run_sliceBound _ (yd e)]
   ·simp [Instr.sliceBounds,run_sliceBound _ i,run_sliceBound _ h,run_sliceBound _ (yd e)]
theorem zv0 {t e : TypeId} {len cap lo d sz : Nat} {ad : Option Addr} {c b a : Option Value} (n : P.underlying t = some (.slice e)) (l : zjM P e = some sz) (j : (c = none ∧ lo = 0) ∨ ∃ k,c = some (.int k lo)) (h : (b = none ∧ a = none ∧ d = len) ∨ ∃ k,b = some (.int k d))
  (i : a = none ∨ a = b) (m : lo ≤ d) (o : d ≤ cap) :
  (Instr.sliceAt t (.slice ad len cap) c b a).run P w = .ok (.slice (if (if a.isSome then d else cap) = lo then ad else ad.map (·.add (lo * sz))) (d - lo) ((if a.isSome then d else cap) - lo)) w:=by
 unfold zjM at l
 cases g : P.info? e with
 | none => simp [g] at l
 | some inf =>
   have f : inf.size = sz:=(by simpa [g] using l);simp [Instr.sliceAt,Instr.slice,run_underlying n,zq3 (w:=w) (P:=P) true j h i m o,sizeOf,typeInfo,g,f]
theorem zvd {N : zgU} {xs : List (List Fz)} {ad : Option Addr} {c lo d m sz : Nat} (h : rep w N (.sl xs) (.slice ad xs.length c)) (f : ∀ e ∈ xs,e.length = sz) (q : lo ≤ d) (o : d ≤ xs.length) (hm : d ≤ m) :
  rep w N (.sl ((xs.take d).drop lo)) (.slice (if m = lo then ad else ad.map (·.add (lo * sz))) (d - lo) (m - lo)):=by
 have hlen : ((xs.take d).drop lo).length = d - lo:=by simp; omega
 simp only [rep] at h ⊢;obtain ⟨n,s,g,e1,e2,e3,e4⟩:=h;injection e1 with e1 _ _;subst e1;rw [hlen];refine ⟨_,_,sz,rfl,by omega,zfK fun e he => f e (List.mem_of_mem_take (List.mem_of_mem_drop he)),?_⟩
 by_cases r : lo = d
 ·left
  exact List.eq_nil_of_length_eq_zero (by omega)
 ·right
  have j : m ≠ lo:=by omega
  rw [if_neg j];rcases e4 with rfl | ⟨b,p,rfl,e4⟩
  ·simp at o; omega
  ·have k : g = sz:=by
    have l : 0 < xs.length:=(by omega);rw [← zcb e3 (yc l)];exact f _ (yo l)
   subst k;refine ⟨b,p + lo * g,by simp [zaR],zgG fun i e a => ?_⟩;rw [yg,yj] at a;split at a
   ·have:=zf1 e4 a
    rwa [yv,← ym] at this
   ·cases a
theorem zrY {b : Option Go.Operand} {x : Option X} {c n : Nat} (i : ∀ y,x = some y → ∃ y',b = some y' ∧ zf g w r.st (r.get y) (a.eval y')) (f : x = none → b = none) (h : bound r c x = some n) :
  (b.map a.eval = none ∧ n = c) ∨ ∃ k,b.map a.eval = some (.int k n):=by
 cases x with
 | none => simp [bound] at h; left; simp [f rfl,h]
 | some y =>
   obtain ⟨y',e,j⟩:=i y rfl;obtain ⟨k,d⟩:=zy4 j h;right;exact ⟨k,by simp [e,d]⟩
theorem zpu {f : Nat → Nat → Option V} {x y : Option Nat} {v : V} (h : two f x y = some v) : ∃ m n,x = some m ∧ y = some n ∧ f m n = some v:=by
 unfold two at h;split at h
 ·exact ⟨_,_,rfl,rfl,h⟩
 ·cases h
theorem zls {sz : Nat} : ∀ {xs : List (List Fz)},zoV sz xs = true → ∀ e ∈ xs,e.length = sz
 | [],_,e,he => by simp at he
 | x :: xs,h,e,he => by
   simp only [zoV,yl,decide_eq_true_eq] at h;rcases yq.1 he with rfl | he
   ·exact h.1
   ·exact zls h.2 e he
def Opt (g : G) (w : World) (r : R) (a : Act) (x : Option Operand) (y : Option X) : Prop:=(∀ z,y = some z → ∃ z',x = some z' ∧ zf g w r.st (r.get z) (a.eval z')) ∧ (y = none → x = none)
theorem zBg {t e : TypeId} {sz : Nat} {x : Operand} {lo B p : Option Operand} {y j : Option X} {d : Bool} (O : o.op = .slice t x lo B p) (R : P.underlying t = some (.slice e)) (Z : zjM P e = some sz)
  (G : Opt g w r a lo y) (D : Opt g w r a B j) (s : (p = none ∧ d = false) ∨ (d = true ∧ j.isSome = true ∧ p.map a.eval = B.map a.eval))
  {N v : V} (J : zf g w r.st N (a.eval x)) (h : zGv r sz y j d N = some v) :
  ∃ u,(execOp a.eval o).run P w = .ok (.value u) w ∧ zf g w r.st v u:=by
 have key : ∀ {ad : Option Addr} {len cap l h' : Nat},a.eval x = .slice ad len cap → bound r 0 y = some l → bound r len j = some h' → l ≤ h' → h' ≤ cap →
   ∃ m,h' ≤ m ∧ (d = false → m = cap) ∧ (execOp a.eval o).run P w = .ok (.value (.slice (if m = l then ad else ad.map (·.add (l * sz))) (h' - l) (m - l))) w:=by
  intro ad len cap l h' ex q z b W;have b1:=zrY (a:=a) G.1 G.2 q;have b2:=zrY (a:=a) D.1 D.2 z
  have bb : (B.map a.eval = none ∧ p.map a.eval = none ∧ h' = len) ∨ ∃ k,B.map a.eval = some (.int k h'):=by
   rcases b2 with ⟨b2,b3⟩ | b2
   ·rcases s with ⟨rfl,_⟩ | ⟨_,Y,em⟩
    ·exact .inl ⟨b2,rfl,b3⟩
    ·exact .inl ⟨b2,by rw [em]; exact b2,b3⟩
   ·exact .inr b2
  have bm : p.map a.eval = none ∨ p.map a.eval = B.map a.eval:=by
   rcases s with ⟨rfl,_⟩ | ⟨_,_,em⟩
   ·exact .inl rfl
   ·exact .inr em
  have E:=zv0 (P:=P) (w:=w) (ad:=ad) R Z b1 bb bm b W;refine ⟨if (p.map a.eval).isSome = true then h' else cap,?_,?_,?_⟩
  ·split <;> omega
  ·intro S
   rcases s with ⟨rfl,_⟩ | ⟨h,_⟩
   ·simp
   ·rw [S] at h; cases h
  ·unfold execOp
   simp only [O,ex,Sem.run_bind,E,Result.andThen_ok,Sem.run_pure]
 unfold zGv at h;split at h
 ·rename_i xs
  obtain ⟨l,h',q,z,b⟩:=zpu h;unfold zBz at b;split at b
  ·rename_i f
   injection b with b;subst b;have A:=zs4 J;obtain ⟨ad,c,e1,e2⟩:=zkB A;rw [e1] at A;obtain ⟨m,H,_,C⟩:=key e1 q z f.1 (by omega);refine ⟨_,C,?_⟩;simp only [vsl,zf,zz];exact zvd A (zls f.2.2) f.1 f.2.1 H
  ·cases b
 ·rename_i xs
  obtain ⟨l,h',q,z,b⟩:=zpu h;unfold zBz at b;split at b
  ·rename_i f
   injection b with b;subst b;have A:=ztC J;obtain ⟨ad,c,e1,e2⟩:=zkB A;rw [e1] at A;obtain ⟨m,H,_,C⟩:=key e1 q z f.1 (by omega);refine ⟨_,C,?_⟩;simp only [vsl,zf,zz];exact zvd A (zls f.2.2) f.1 f.2.1 H
  ·cases b
 ·rename_i id K M n
  split at h
  ·cases h
  ·rename_i I
   obtain ⟨l,h',q,z,b⟩:=zpu h;unfold zAT at b;split at b
   ·rename_i f
    injection b with b;subst b;obtain ⟨c1,c2,c3⟩:=f
    cases i : r.st[id]? with
    | none => simp [i] at c3
    | some ob =>
      simp [i] at c3;obtain ⟨es,rfl⟩:=zlv c3;obtain ⟨ad,c,e1,e2,e3,e4⟩:=zhl J i;obtain ⟨m,H,Q,C⟩:=key e1 q z c1 (by omega);have hm:=Q (by simpa using I);subst hm;refine ⟨_,C,?_⟩;simp only [zf,zz];refine ⟨K,sz,es.length,zu i,yd _,fun _ => ⟨_,_,rfl,by omega,fun L => by have:=e3 L; omega,fun L => ?_⟩,_,_,rfl⟩;obtain ⟨f1,f2,arr,ty,f3,f4⟩:=e4 L;refine ⟨by omega,fun U => ?_,arr,ty,f3,?_⟩
      ·rw [if_neg (by omega),f2 (by omega)]
       simp [zaR,yv]
      ·have : (M + l + (m - l)) = M + m:=by omega
       rw [this]; exact f4
   ·cases b
 ·cases h
theorem zkm {σ : zd} : ∀ {vs : List V} {us : List Value},zA g w σ vs us → ∀ {i : Nat} {v : V},vs[i]? = some v → ∃ u,us[i]? = some u ∧ zf g w σ v u
 | [],_,_,i,v,h => by simp at h
 | x :: vs,us,hr,i,v,h => by
   simp only [zA] at hr;obtain ⟨u,us',rfl,a,b⟩:=hr
   cases i with
   | zero => simp at h; subst h; exact ⟨u,by simp,a⟩
   | succ i => simpa using zkm b (i:=i) (v:=v) (by simpa using h)
theorem zAV {x : Operand} {i : Nat} (j : o.op = .extract x i) {c v : V} (d : zf g w r.st c (a.eval x)) (h : zHg i c = some v) :
  ∃ u,(execOp a.eval o).run P w = .ok (.value u) w ∧ zf g w r.st v u:=by
 unfold zHg at h;split at h
 ·simp only [zf] at d
  obtain ⟨us,e,f⟩:=d;obtain ⟨u,hu,k⟩:=zkm f h;refine ⟨u,?_,k⟩;have b : us[i]? = some u:=by simpa using hu
  unfold execOp;simp [j,e,Instr.extract,b]
 ·cases h
theorem zzL {x : Operand} (c : o.op = .nilCheck x) {d v : V} (b : zf g w r.st d (a.eval x)) (h : zHb d = some v) :
  ∃ u,(execOp a.eval o).run P w = .ok (.value u) w ∧ zf g w r.st v u:=by
 unfold zHb at h;split at h
 ·injection h with h
  subst h;refine ⟨a.eval x,?_,b⟩;simp only [zf,zz] at b;obtain ⟨_,_,_,_,_,_,ad,e⟩:=b;unfold execOp;simp [c,e]
 ·injection h with h
  subst h;refine ⟨a.eval x,?_,b⟩;simp only [zf,zz] at b;obtain ⟨_,_,e,_⟩:=b;unfold execOp;simp [c,e]
 ·injection h with h
  subst h;refine ⟨a.eval x,?_,b⟩;simp only [zf,zz] at b;obtain ⟨_,_,e,_⟩:=b;unfold execOp;simp [c,e]
 ·cases h
theorem zBw {b : Builtin} {isMax : Bool} {x y : Operand} {c : Go.Call} (f : o.op = .call c) (i : c.callee = .builtin b) (e : b = if isMax then .max else .min) (d : c.args = #[x,y])
  {l j v : V} (s : zf g w r.st l (a.eval x)) (p : zf g w r.st j (a.eval y)) (h : zHf isMax l j = some v) :
  ∃ u,(execOp a.eval o).run P w = .ok (.value u) w ∧ zf g w r.st v u:=by
 unfold zHf at h;split at h
 ·rename_i k m t n
  split at h
  ·rename_i q
   subst q;injection h with h;subst h;obtain ⟨ex,_⟩:=zQ s;obtain ⟨ey,_⟩:=zQ p;cases isMax
   ·simp at e
    subst e;refine ⟨.int k (min m n),?_,zY rfl⟩;unfold execOp;simp [f,resolve,i,d,ex,ey,invoke,builtin,Builtin.min_,Builtin.min2];omega
   ·simp at e
    subst e;refine ⟨.int k (max m n),?_,zY rfl⟩;unfold execOp;simp [f,resolve,i,d,ex,ey,invoke,builtin,Builtin.max_,Builtin.max2];omega
  ·cases h
 ·cases h
end
section
variable {P : Program} {κ : List Tmp} {loc : List (Option Tmp)} {nt : Nat} {g : G} {w : World} {r r' : R} {a : Act} {o : Go.Oper} {d : D} {next : Act → World → Prop} {Q : Exit → Act → World → Prop}
theorem zAl {σ : zd} {id b i : Nat} {e : List C} (h : σ.elem id b i = some e) : ∃ sz es,σ[id]? = some (.cells b sz es) ∧ es[i]? = some e:=by
 unfold zd.elem at h;rw [ye] at h;obtain ⟨g,f,a⟩:=h;unfold Ob.elem at a;split at a
 ·rename_i c sz es
  split at a
  ·rename_i d
   subst d;exact ⟨sz,es,f,a⟩
  ·cases a
 ·cases a
theorem zrZ (H : Rel g w r.st) {id n i off : Nat} {e : List C} {u : Value} (he : r.st.elem id n i = some e) (A : zf g w r.st (.one (.ptr id n i off)) u) :
  ∃ b o us,u = .pointer (some ⟨b,o + off,none⟩) ∧ us.length = e.length ∧ zw g w r.st e us ∧ (∀ v ∈ us,v.oneCell' = true) ∧ ∀ j v,us[j]? = some v → w.cell? ⟨b,o + j,none⟩ = some v:=by
 obtain ⟨sz,es,y,z⟩:=zAl he;have q : es ≠ []:=fun h => by subst h; simp at z
 obtain ⟨_,_,arr,t,E,M,G⟩:=H.ob id _ y q;simp only [zf,zz] at A;obtain ⟨v0,I,len,k,L,D,_⟩:=A;rw [zu y] at k;injection k with k;injection k with e1 k;injection k with e2 e3;subst e1 e2 e3;have hu:=D rfl;obtain ⟨J,a⟩:=G i e z;refine ⟨g.ρ id,i * sz,(yu e.length).map fun j => arr.getD (i * sz + j) undef,hu,by simp,zlg (by simp) fun j c v x d => ?_,fun v d => ?_,fun j v d => ?_⟩
 ·obtain ⟨s,m,K,_⟩:=a j c x
  rw [yi,yf (zb x)] at d;simp only [yn,Option.some.injEq] at d;rw [← d];simp only [yh,m,yk];exact K
 ·rw [List.mem_map] at d
  obtain ⟨j,p,rfl⟩:=d;rw [List.mem_range] at p;obtain ⟨s,m,_,B⟩:=a j _ (yc p);simp only [yh,m,yk];exact B
 ·rw [yi] at d
  have p:=d
  cases l : (yu e.length)[j]? with
  | none => rw [l] at d; cases d
  | some j' =>
    have f:=zb l;simp at f;rw [yf f] at l;injection l with l;subst l;rw [yf f] at d;simp only [yn,Option.some.injEq] at d;obtain ⟨s,m,_,_⟩:=a j _ (yc f);rw [ziQ E,m,← d];simp only [yh,m,yk]
theorem zkw {t : TypeId} {b : Bool} (h : zmv P t = some b) : (isAgg t).run P w = .ok b w:=by
 unfold zmv at h
 cases hu : P.underlying t with
 | none => simp [hu] at h
 | some de =>
   simp [hu] at h;subst h;unfold isAgg;rw [Sem.run_bind,run_underlying hu w];cases de <;> rfl
theorem zl4 {t : TypeId} {ad : Addr} {v : Value} (h : zmv P t = some false) (a : w.cell? ad = some v) : (Instr.loadAt t (.pointer (some ad))).run P w = .ok v w:=by
 simp [Instr.loadAt,Instr.sureAddr,loadVar,zkw (w:=w) h,a]
theorem zlT {t : TypeId} {b o n : Nat} {vs : List Value} (h : zmv P t = some true) (d : zjM P t = some n) (e : vs.length = n) (i : ∀ j v,vs[j]? = some v → w.cell? ⟨b,o + j,none⟩ = some v) :
  (Instr.loadAt t (.pointer (some ⟨b,o,none⟩))).run P w = .ok (.agg vs.toArray) w:=by
 have f : (loadCells ⟨b,o,none⟩ n).run P w = .ok vs.toArray w:=by
  rw [← e];exact run_loadCells_list (P:=P) w ⟨b,o,none⟩ vs (fun j v g => by rw [zaR]; exact i j v g)
 unfold zjM at d
 cases c : P.info? t with
 | none => simp [c] at d
 | some inf =>
   have a : inf.size = n:=(by simpa [c] using d);simp [Instr.loadAt,Instr.sureAddr,loadVar,zkw (w:=w) h,sizeOf,typeInfo,c,a,f]
theorem ztJ {α : Type} {o n : Nat} {e x : List α} (h : cut o n e = some x) : o + n ≤ e.length ∧ x = (e.drop o).take n:=by
 unfold cut at h;split at h
 ·injection h with h; exact ⟨by assumption,h.symm⟩
 ·cases h
theorem zuB {σ : zd} {e : List C} {us : List Value} (h : zw g w σ e us) (o n : Nat) : zw g w σ ((e.drop o).take n) ((us.drop o).take n):=by
 have d:=zJ h;refine zlg (by simp [d]) fun j c u a hu => ?_;rw [yj] at a hu;split at a
 ·rw [if_pos (by assumption),yg] at hu
  rw [yg] at a;obtain ⟨i,b,f⟩:=zeM h a;rw [b] at hu;injection hu with hu;rw [← hu];exact f
 ·cases a
theorem zrd {σ : zd} : ∀ {cs : List Fz} {us : List Value},us.length = cs.length → (∀ (j : Nat) (x : Fz) (u : Value),cs[j]? = some x → us[j]? = some u → rep w g.N x u) → zw g w σ (cs.map C.f) us
 | cs,us,hl,h => zlg (by simpa using hl) fun j c u a hu => by
   rw [yi,ya] at a;obtain ⟨x,b,rfl⟩:=a;simp only [zz];exact h j x u b hu
theorem zxA (J : Rel g w r.st) {t : TypeId} {x : Operand} {sz : Option Nat} (D : o.op = .load t x) (k : match sz with
   | none => zmv P t = some false
   | some n => zmv P t = some true ∧ zjM P t = some n)
  {K v : V} (d : zf g w r.st K (a.eval x)) (h : ald r.st sz K = some v) :
  ∃ u,(execOp a.eval o).run P w = .ok (.value u) w ∧ zf g w r.st v u:=by
 unfold ald at h;split at h
 ·
  rename_i id I i off;rw [ya] at h;obtain ⟨c,f,rfl⟩:=h;unfold zd.cell at f;rw [ye] at f;obtain ⟨e,f,H⟩:=f;obtain ⟨b,A,us,s,C,E,_,q⟩:=zrZ J f d;obtain ⟨u,M,O⟩:=zeM E H;refine ⟨u,?_,O⟩;unfold execOp;simp only [D,s];simp [zl4 (P:=P) (w:=w) k (q off u M)]
 ·
  rename_i cs off;rw [ya] at h;obtain ⟨y,f,rfl⟩:=h;simp only [zf,zz] at d;obtain ⟨b,A,s,C⟩:=d;obtain ⟨u,_,B,q⟩:=zhC C f;refine ⟨u,?_,by simpa only [vf,zf,zz] using q⟩;unfold execOp;simp only [D,s];simp [zl4 (P:=P) (w:=w) k B]
 ·
  rename_i n id I i off;rw [ya] at h;obtain ⟨Q,f,rfl⟩:=h;rw [ye] at f;obtain ⟨e,f,H⟩:=f;obtain ⟨hle,rfl⟩:=ztJ H;obtain ⟨b,A,us,s,C,E,_,q⟩:=zrZ J f d;refine ⟨.agg ((us.drop off).take n).toArray,?_,?_⟩
  ·unfold execOp
   simp only [D,s]
   simp [zlT (P:=P) (w:=w) (b:=b) (o:=A + off) (vs:=(us.drop off).take n) k.1 k.2 (by simp; omega) (fun j v m => by
    rw [yj] at m;split at m
    ·rw [yg] at m
     have:=q _ _ m
     rwa [← ym] at this
    ·cases m)]
  ·simp only [zf]
   exact ⟨_,rfl,by simpa using zuB E off n⟩
 ·rename_i n cs off
  rw [ya] at h;obtain ⟨Q,f,rfl⟩:=h;obtain ⟨hle,rfl⟩:=ztJ f;simp only [zf,zz] at d;obtain ⟨b,A,s,C⟩:=d
  have p : ∀ j,j < n → ∃ u,w.cell? ⟨b,A + off + j,none⟩ = some u ∧ ∀ x,cs[off + j]? = some x → rep w g.N x u:=fun j G => by
   obtain ⟨u,_,B,q⟩:=zhC C (yc (by omega : off + j < cs.length));refine ⟨u,by rwa [ym],fun x d => ?_⟩;rw [yc (by omega : off + j < cs.length)] at d;injection d with d;rw [← d]; exact q
  let us : List Value:=(yu n).map fun j => (w.cell? ⟨b,A + off + j,none⟩).getD undef
  refine ⟨.agg us.toArray,?_,?_⟩
  ·unfold execOp
   simp only [D,s]
   simp [zlT (P:=P) (w:=w) (b:=b) (o:=A + off) (vs:=us) k.1 k.2 (by simp [us]) (fun j v m => by
    simp only [us,yi,ya] at m;obtain ⟨R,l,m⟩:=m;have z:=zb l;simp at z;rw [yf z] at l;injection l with l;subst l;obtain ⟨u,B,_⟩:=p j z;rw [B] at m ⊢
    simpa using m)]
  ·simp only [zCa,zf]
   refine ⟨us.toArray,rfl,zrd (by simp [us]; omega) fun j x u d hu => ?_⟩;rw [yj] at d;split at d
   ·rename_i G
    rw [yg] at d;obtain ⟨L,B,q⟩:=p j G
    have : us[j]? = some L:=by
     simp only [us,yi,yf G,yn,B,yk]
    rw [show us.toArray.toList = us from by simp,this] at hu;injection hu with hu;rw [← hu];exact q x d
   ·cases d
 ·cases h
theorem zAG {t : TypeId} {x : Operand} {i off : Nat} {sz : Option Nat} {fs : Array Field} {f : Field} (y : o.op = .field t x i) (z : P.underlying t = some (.struct fs)) (A : fs[i]? = some f) (j : f.offset = off)
  (b : match sz with
   | none => zmv P f.type = some false
   | some n => zmv P f.type = some true ∧ zjM P f.type = some n)
  {B v : V} (k : zf g w r.st B (a.eval x)) (h : zGN off sz B = some v) :
  ∃ u,(execOp a.eval o).run P w = .ok (.value u) w ∧ zf g w r.st v u:=by
 subst j;unfold zGN at h;split at h
 ·rename_i cs
  rw [ya] at h;obtain ⟨c,p,rfl⟩:=h;simp only [zf] at k;obtain ⟨us,e,q⟩:=k;obtain ⟨u,E,D⟩:=zeM q p;have m : us[f.offset]? = some u:=by simpa using E
  refine ⟨u,?_,D⟩;unfold execOp;simp [y,e,Instr.field,run_underlying z,A,asAgg,part,zkw (w:=w) b,m]
 ·rename_i n cs
  rw [ya] at h;obtain ⟨C,p,rfl⟩:=h;obtain ⟨hle,rfl⟩:=ztJ p;simp only [zf] at k;obtain ⟨us,e,q⟩:=k;refine ⟨.agg (us.extract f.offset (f.offset + n)),?_,?_⟩
  ·have s:=b.2
   unfold zjM at s
   cases l : P.info? f.type with
   | none => simp [l] at s
   | some inf =>
     have d : inf.size = n:=(by simpa [l] using s);unfold execOp;simp [y,e,Instr.field,run_underlying z,A,asAgg,part,zkw (w:=w) b.1,sizeOf,typeInfo,l,d]
  ·simp only [zf]
   refine ⟨_,rfl,?_⟩;have:=zuB q f.offset n
   have e2 : (us.extract f.offset (f.offset + n)).toList = (us.toList.drop f.offset).take n:=by
    rw [Array.toList_extract];simp [List.extract,Nat.add_sub_cancel_left]
   rw [e2];exact this
 ·cases h
def zzp (κ : List Tmp) (loc : List (Option Tmp)) : List Operand → List X → Bool
 | [],[] => true
 | x :: xs,y :: ys => okX κ loc x y && zzp κ loc xs ys
 | _,_ => false
theorem Fr.gets (F : Fr κ loc nt g w r a) : ∀ {xs : List Operand} {ys : List X},zzp κ loc xs ys = true → zA g w r.st (r.gets ys) (xs.map a.eval)
 | [],[],_ => by simp [R.gets,zA]
 | x :: xs,y :: ys,h => by
   simp only [zzp,yl] at h;simp only [R.gets,zA,yr];exact ⟨_,_,rfl,F.get h.1,F.gets h.2⟩
 | [],_ :: _,h => by simp [zzp] at h
 | _ :: _,[],h => by simp [zzp] at h
theorem zsO {σ : zd} : ∀ {vs : List V} {us : List Value},zA g w σ vs us → zw g w σ (vs.map V.c1) us
 | [],us,h => by simpa only [zA,zw,List.map_nil] using h
 | v :: vs,us,h => by
   simp only [zA] at h;obtain ⟨x,xs,rfl,b,a⟩:=h;simp only [yr,zw];refine ⟨x,xs,rfl,?_,zsO a⟩
   cases v with
   | one c => simpa only [V.c1,zf] using b
   | agg cs => simp only [V.c1,zz]
   | tup cs => simp only [V.c1,zz]
theorem zA9 (F : Fr κ loc nt g w r a) {f : Nat} {first c : Array Operand} {b d : List X} (h : o.op = .makeFunc (.func f) first c) (i : zzp κ loc first.toList b = true) (e : zzp κ loc c.toList d = true) :
  ∃ u,(execOp a.eval o).run P w = .ok (.value u) w ∧ zf g w r.st (.one (.fn f ((r.gets b).map V.c1) ((r.gets d).map V.c1))) u:=by
 refine ⟨.func (.func f) (first.map a.eval) (c.map a.eval),?_,?_⟩
 ·unfold execOp
  simp [h,Instr.makeFunc]
 ·simp only [zf,zz]
  exact ⟨_,_,rfl,by simpa using zsO (F.gets i),by simpa using zsO (F.gets e)⟩
end
structure Low (base lim : Nat) (σ : zd) : Prop where
 le : True
theorem Low.append {base lim : Nat} {σ : zd} (_ : Low base lim σ) (os : List Ob) : Low base lim (σ ++ os):=⟨trivial⟩
theorem Low.set {base lim : Nat} {σ : zd} (_ : Low base lim σ) {id : Nat} {o : Ob} : Low base lim (σ.set id o):=⟨trivial⟩
def zpJ (κ : List Tmp) (loc : List (Option Tmp)) (nt : Nat) (g : G) (w : World) (r r' : R) (pa : Value → Act) (next : Act → World → Prop) : Prop :=
 ∀ g' w' u,Ext g w r.st g' w' r'.st → Rel g' w' r'.st → Low r.base r.lim r'.st → Fr κ loc nt g' w' r' (pa u) → next (pa u) w'
section
variable {P : Program} {κ : List Tmp} {loc : List (Option Tmp)} {nt : Nat} {g : G} {w : World} {r r' : R} {a : Act} {o : Go.Oper} {d : D} {next : Act → World → Prop} {Q : Exit → Act → World → Prop}
theorem zmW (e : Rel g w r.st) (L : Low r.base r.lim r.st) (F : Fr κ loc nt g w r a) (hd : okD κ nt o.dst d = true) {v : V} {u : Value} (b : (execOp a.eval o).run P w = .ok (.value u) w) (c : zf g w r.st v u)
  (k : zpJ κ (zbg o.dst d :: loc) nt g w r (r.put d v) (a.put o.dst) next) : o.wp P a w next Q:=by
 refine zm8 b (k g w _ ?_ ?_ ?_ (F.put hd fun _ => c)) <;> rw [zfH]
 ·exact Ext.refl _ _ _
 ·exact e
 ·exact L
theorem zbP {g' : G} {w' : World} {r1 : R} (F : Fr κ loc nt g w r a) (hd : okD κ nt o.dst d = true) (H : Ext g w r.st g' w' r1.st) (h : Rel g' w' r1.st) (e : Low r.base r.lim r1.st) (he : r1.env = r.env) (c : r1.rs = r.rs)
  {v : V} {u : Value} (b : (execOp a.eval o).run P w = .ok (.value u) w') (f : zf g' w' r1.st v u)
  (k : zpJ κ (zbg o.dst d :: loc) nt g w r (r1.put d v) (a.put o.dst) next) : o.wp P a w next Q:=by
 refine zm8 b (k g' w' _ ?_ ?_ ?_ ((F.ext H he c).put hd fun _ => f)) <;> rw [zfH]
 ·exact H
 ·exact h
 ·exact e
theorem ztt {g' : G} {w' : World} {r1 : R} (F : Fr κ loc nt g w r a) (hd : okD κ nt o.dst d = true) (c : d = .no) (H : Ext g w r.st g' w' r1.st) (i : Rel g' w' r1.st) (f : Low r.base r.lim r1.st) (he : r1.env = r.env) (e : r1.rs = r.rs)
  (b : (execOp a.eval o).run P w = .ok .skip w') (k : zpJ κ (zbg o.dst d :: loc) nt g w r (r1.put d vun) (a.put o.dst) next) : o.wp P a w next Q:=by
 refine zCL b (k g' w' _ ?_ ?_ ?_ ((F.ext H he e).put hd fun h => absurd c h)) <;> rw [zfH]
 ·exact H
 ·exact i
 ·exact f
theorem zqb {N : zgU} {x : Fz} {u : Value} (h : rep w N x u) : u.oneCell' = true:=by
 cases x with
 | lit v =>
   simp only [rep] at h;rw [h.1];have:=h.2;cases v <;> simp_all [zzg,Value.oneCell']
 | sl xs =>
   obtain ⟨_,_,e,_⟩:=zkB h;rw [e];rfl
theorem zxl {σ : zd} {c : C} {u : Value} (h : zz g w σ c u) (a : c ≠ .un) : u.oneCell' = true:=by
 cases c with
 | f x => simp only [zz] at h; exact zqb h
 | ap t k xs => simp only [zz] at h; exact zqb h.1
 | ptr id ver i off => simp only [zz] at h; obtain ⟨_,_,_,_,_,_,_,e⟩:=h; rw [e]; rfl
 | fp cs off => simp only [zz] at h; obtain ⟨_,_,e,_⟩:=h; rw [e]; rfl
 | own id ver lo n => simp only [zz] at h; obtain ⟨_,_,_,_,_,_,_,_,e⟩:=h; rw [e]; rfl
 | map id => simp only [zz] at h; rw [h.2]; rfl
 | fn f x y => simp only [zz] at h; obtain ⟨_,_,e,_⟩:=h; rw [e]; rfl
 | un => exact absurd rfl a
theorem zz8 : ∀ {cs : List C},C.kns cs = true → ∀ c ∈ cs,c ≠ .un
 | [],_,c,h => by simp at h
 | x :: cs,hk,c,h => by
   cases x <;> simp only [C.kns] at hk <;> first
    | (cases hk; done)
    | (rcases yq.1 h with rfl | h
       ·simp
       ·exact zz8 hk c h)
theorem zAg {σ : zd} {cs : List C} {us : List Value} (h : zw g w σ cs us) (d : C.kns cs = true) : ∀ u ∈ us,u.oneCell' = true:=fun u hu => by
 obtain ⟨j,c⟩:=List.mem_iff_getElem?.1 hu;have a:=zb c;rw [zJ h] at a;obtain ⟨f,b,e⟩:=zeM h (yc a);rw [c] at b;injection b with b;subst b;exact zxl e (zz8 d _ (yo a))
theorem zu2 {u : Value} (h : u.oneCell' = true) : u.cells = #[u]:=by cases u <;> simp_all [Value.oneCell',Value.cells]
theorem zk9 {σ : zd} {v : V} {u : Value} (h : zf g w σ v u) (a : C.kns v.cells = true) (j : 0 < v.cells.length) : zw g w σ v.cells u.cells.toList ∧ ∀ x ∈ u.cells.toList,x.oneCell' = true:=by
 cases v with
 | one c =>
   simp only [zf] at h;have i : c ≠ .un:=zz8 (cs:=[c]) a c (by simp);have f:=zxl h i;rw [zu2 f];simp only [V.cells,zw];exact ⟨⟨u,[],rfl,h,rfl⟩,fun x d => by simp at d; rw [d]; exact f⟩
 | agg cs =>
   simp only [zf] at h;obtain ⟨us,e,b⟩:=h;rw [e];exact ⟨b,zAg b a⟩
 | tup vs => simp [V.cells] at j
mutual
theorem zoi {σ : zd} : ∀ (c : C) (u : Value),zz g w σ c u → c.lt σ.length = true
 | .f _,_,_ => by simp [C.lt]
 | .ap t k xs,u,h => by
   simp only [zz] at h;obtain ⟨_,n,b,_⟩:=h;obtain ⟨_,_,a,_⟩:=zdi b;simpa [C.lt] using zb a
 | .ptr id ver i off,u,h => by
   simp only [zz] at h;obtain ⟨_,_,_,d,_⟩:=h;obtain ⟨_,a,_⟩:=za2 d;simpa [C.lt] using zb a
 | .fp _ _,_,_ => by simp [C.lt]
 | .own id ver lo n,u,h => by
   simp only [zz] at h;obtain ⟨_,_,_,d,_⟩:=h;obtain ⟨_,a,_⟩:=za2 d;simpa [C.lt] using zb a
 | .map id,u,h => by
   simp only [zz] at h;obtain ⟨⟨_,a⟩,_⟩:=h;simpa [C.lt] using zb a
 | .fn f x y,u,h => by
   simp only [zz] at h;obtain ⟨fs,cs,_,b,a⟩:=h;simp [C.lt,zps x _ b,zps y _ a]
 | .un,_,_ => by simp [C.lt]
theorem zps {σ : zd} : ∀ (cs : List C) (us : List Value),zw g w σ cs us → C.lts σ.length cs = true
 | [],_,_ => by simp [C.lts]
 | c :: cs,us,h => by
   simp only [zw] at h;obtain ⟨v,vs,_,a,b⟩:=h;simp [C.lts,zoi c v a,zps cs vs b]
end
theorem zBR {n : Nat} : ∀ {cs : List C},C.lts n cs = true ↔ ∀ c ∈ cs,c.lt n = true
 | [] => by simp [C.lts]
 | c :: cs => by simp [C.lts,zBR]
theorem zwP {n : Nat} : ∀ {es : List (List C)},C.ltss n es = true ↔ ∀ e ∈ es,C.lts n e = true
 | [] => by simp [C.ltss]
 | c :: cs => by simp [C.ltss,zwP]
theorem zwp {t : TypeId} {b o : Nat} {arr : Array Value} {ty : TypeId} {u : Value} {n : Nat} (f : zjM P t = some n) (g : u.cells.size = n) (h : w.heap[b]? = some (.cells arr ty (0,0))) (c : o + n ≤ arr.size) (i : ∀ x ∈ u.cells.toList,x.oneCell' = true) :
  (Instr.storeAt t (.pointer (some ⟨b,o,none⟩)) u).run P w = .ok () (w.setRow b (zdr arr o u.cells.toList)):=by
 have a:=run_storeCells_at P b o ty u.cells.toList 0 arr w h (by simpa [g] using c) i;simp only [Nat.add_zero] at a;unfold zjM at f
 cases e : P.info? t with
 | none => simp [e] at f
 | some inf =>
   have d : inf.size = n:=(by simpa [e] using f);simp [Instr.storeAt,Instr.sureAddr,storeVar,sizeOf,typeInfo,e,d,g,a,zdr]
theorem zw4 (M : Rel g w r.st) (L : Low r.base r.lim r.st) (F : Fr κ loc nt g w r a) {t : TypeId} {x v : Operand} {sz : Nat} (G : o.op = .store t x v) (hd : okD κ nt o.dst d = true) (A : d = .no) (X : zjM P t = some sz) (h0 : 0 < sz)
  {E vv : V} (D : zf g w r.st E (a.eval x)) (J : zf g w r.st vv (a.eval v)) {r1 : R} (h : ast r sz vv.cells E = some r1)
  (k : zpJ κ (zbg o.dst d :: loc) nt g w r (r1.put d vun) (a.put o.dst) next) : o.wp P a w next Q:=by
 unfold ast at h;split at h
 ·rename_i id O i off
  split at h
  ·rename_i hlen
   unfold R.write at h;split at h
   ·rename_i j
    rw [ya] at h;obtain ⟨I,p,rfl⟩:=h;rw [ye] at p;obtain ⟨Z,p,b⟩:=p;unfold Ob.write at b;split at b
    ·rename_i y l es
     split at b
     ·rename_i s
      subst s;rw [ya] at b;obtain ⟨S,b,rfl⟩:=b;rw [ye] at b;obtain ⟨e,b,H⟩:=b;obtain ⟨C,B⟩:=zk9 J j (by omega);obtain ⟨arr,ty,W,c,U,K⟩:=zvR M p b H C B
      have z : a.eval x = .pointer (some ⟨g.ρ id,i * l + off,none⟩):=by
       simp only [zf,zz] at D;obtain ⟨v0,s0,Y,m1,_,N,_⟩:=D;rw [zu p] at m1;injection m1 with m1;injection m1 with e1 m1;injection m1 with e2 e3;subst e1 e2;exact N rfl
      have m:=zJ C;have f : (a.eval v).cells.size = sz:=(by rw [← hlen,← m]; simp);refine ztt (r1:=r.setOb id (upd y l i es S)) F hd A U K L.set rfl rfl ?_ k
      ·unfold execOp
       simp only [G,z];have q:=zwp (P:=P) (w:=w) (u:=a.eval v) (n:=sz) (o:=i * l + off) X f W (by rw [m,hlen] at c; exact c) B;simp only [Sem.run_bind,q,Result.andThen_ok,Sem.run_pure]
     ·cases b
    ·cases b
   ·cases h
  ·cases h
 ·cases h
end
def zeroOf (P : Program) (t : TypeId) : Option (List Value):=((P.info? t).bind (·.zero)).map fun z => z.cells.toList
def zhY (zs : List Value) : List (Nat × Nat) → Bool
 | [] => true
 | j :: js => (match zs[j.1]? with
   | some (.slice none 0 0) => true
   | _ => false) && zhY zs js
def G.nils (g : G) (t : Nat) (f : Nat → Value) : G:={ g with tv:=fun t' k => if t' = t then f k else g.tv t' k }
section
variable {g : G} {w : World} {σ : zd}
theorem zwW (R : Rel g w σ) (ob : Ob) (f : Nat → Value) (e : ∀ {σ' : zd},Ext g w σ (g.nils σ.length f) w σ' → zCe (g.nils σ.length f) w σ' σ.length ob) :
  Ext g w σ (g.nils σ.length f) w (σ ++ [ob]) ∧ Rel (g.nils σ.length f) w (σ ++ [ob]):=by
 have b : ∀ t k,t < σ.length → (g.nils σ.length f).tv t k = g.tv t k:=fun t k h => by
  show (if t = σ.length then f k else g.tv t k) = _
  rw [if_neg (by omega)]
 have H : Ext g w σ (g.nils σ.length f) w (σ ++ [ob]):={
  os:=rfl
  tape:=rfl
  output:=rfl
  size:=yd _
  keeps:=fun _ _ h => ⟨h,rfl⟩
  len:=by simp
  shape:=fun id l sz len h => by
   obtain ⟨es,a,_⟩:=za2 h;exact .inl ⟨by unfold shapeOf; rw [yb (zb a)]; exact h,rfl,fun _ arr t i => ⟨arr,i,rfl⟩⟩
  map:=fun id es h => ⟨rfl,es,by rw [yb (zb h)]; exact h⟩
  tok:=fun t k n h => by
   obtain ⟨sz,fr,a,j⟩:=zdi h;exact ⟨n,zd3 (by rw [yb (zb a)]; exact a) j,yd _,fun _ => b t k (zb a)⟩
  tsz:=fun t sz h => by
   obtain ⟨fr,a⟩:=zfc h;exact zct (fr:=fr) (by rw [yb (zb a)]; exact a)
  ow:=fun _ _ => rfl
  new:=fun _ _ h _ _ => h
  frame:=fun _ _ _ => rfl }
 refine ⟨H,⟨R.nb,fun id o h => ?_⟩⟩
 by_cases c : id < σ.length
 ·rw [yb c] at h
  exact zdq H rfl (fun k => b id k c) (fun _ _ _ => ⟨rfl,rfl,fun _ h => h⟩) (R.ob id o h)
 ·have d : id = σ.length:=by
   have:=zb h;simp at this;omega
  subst d;simp at h;subst h;exact e H
theorem G.nils_tv (g : G) (t k : Nat) (f : Nat → Value) : (g.nils t f).tv t k = f k:=by
 show (if t = t then f k else _) = _
 rw [if_pos rfl]
theorem zqG (R : Rel g w σ) (sz : Nat) (fr : List Nat) (f : Nat → Value) (c : ∀ k n,fr[k]? = some n → n = 0 ∧ ∃ a,f k = .slice a 0 0) :
  Ext g w σ (g.nils σ.length f) w (σ ++ [.tok sz fr]) ∧ Rel (g.nils σ.length f) w (σ ++ [.tok sz fr]) :=
 zwW R _ f fun _ => fun k n b => by
  obtain ⟨d,a,e⟩:=c k n b;exact .inl ⟨d,a,by rw [G.nils_tv]; exact e⟩
theorem zj1 : ∀ fresh : List (Nat × Nat),(tokens fresh).length = fresh.length
 | [] => rfl
 | _ :: js => by simp [tokens,zj1 js]
theorem zju : ∀ (fresh : List (Nat × Nat)) (t : Nat) (cs : List C),(zgZ t fresh cs).length = cs.length
 | [],_,_ => rfl
 | _ :: js,t,cs => by rw [zgZ,zju js]; simp
theorem zmT {cs : List C} {us : List Value} {j : Nat} {c : C} {u : Value} (h : zw g w σ cs us) (hu : us[j]? = some u) (k : zz g w σ c u) : zw g w σ (cs.set j c) us:=by
 have f:=zJ h;refine zlg (by simpa using f) fun i x v b a => ?_;rw [List.getElem?_set] at b
 by_cases e : j = i
 ·subst e
  have d : j < cs.length:=by rw [← f]; exact zb hu
  simp [d] at b;subst b;rw [hu] at a;injection a with a;rw [← a];exact k
 ·rw [if_neg e] at b
  obtain ⟨v',m,l⟩:=zeM h b;rw [m] at a;injection a with a;rw [← a];exact l
theorem zsF {N : zgU} : rep w N (.sl []) (.slice none 0 0):=by
 rw [rep];exact ⟨none,0,0,rfl,yd _,by simp only [zb9],.inl rfl⟩
theorem zpE {σ : zd} (R : Rel g w σ) (sz : Nat) : Ext g w σ (g.nils σ.length fun _ => undef) w (σ ++ [.cells 0 sz []]) ∧ Rel (g.nils σ.length fun _ => undef) w (σ ++ [.cells 0 sz []]) :=
 zwW R _ _ fun _ h => absurd rfl h
theorem zzO {σ : zd} {sz n q : Nat} (a : q < n) (g : G) : zz g w (σ ++ yp n (.cells 0 sz [])) (.own (σ.length + q) 0 0 0) (.slice none 0 0):=by
 rw [zz]
 have b : shapeOf (σ ++ yp n (.cells 0 sz [])) (σ.length + q) = some (0,sz,0):=by
  unfold shapeOf;rw [List.getElem?_append_right (by omega),show σ.length + q - σ.length = q by omega,List.getElem?_replicate,if_pos a];rfl
 exact ⟨0,sz,0,b,yd _,fun _ => ⟨none,0,rfl,yd _,fun _ => rfl,fun h => absurd rfl h⟩,_,_,rfl⟩
theorem zsL : ∀ (fresh : List (Nat × Nat)) {g : G} {σ : zd} {cs : List C} {a : List Value},Rel g w σ → zhY a fresh = true → zw g w σ cs a →
  ∃ g',Ext g w σ g' w (σ ++ tokens fresh) ∧ Rel g' w (σ ++ tokens fresh) ∧ zw g' w (σ ++ tokens fresh) (zgZ σ.length fresh cs) a
 | [],g,σ,cs,a,R,_,h => ⟨g,by simpa [tokens] using Ext.refl g w σ,by simpa [tokens] using R,by simpa [tokens,zgZ] using h⟩
 | j :: js,g,σ,cs,a,R,hf,h => by
   simp only [zhY,yl] at hf;obtain ⟨o,b⟩:=hf
   have p : a[j.1]? = some (.slice none 0 0):=by
    split at o
    ·assumption
    ·cases o
   by_cases c : 4096 ≤ j.2
   ·obtain ⟨H1,i⟩:=zpE R (j.2 - 4096)
    have l : zz (g.nils σ.length fun _ => undef) w (σ ++ [.cells 0 (j.2 - 4096) []]) (zFZ σ.length j.2) (.slice none 0 0):=by
     rw [zFZ,if_pos c];have:=zzO (σ:=σ) (sz:=j.2 - 4096) (n:=1) (q:=0) (w:=w) (by omega) (g.nils σ.length fun _ => undef);simpa using this
    obtain ⟨g',m,f,e⟩:=zsL js i b (zmT (H1.zw _ _ h) p l);refine ⟨g',?_,?_,?_⟩
    ·have:=H1.trans m
     simpa [tokens,zEz,if_pos c] using this
    ·simpa [tokens,zEz,if_pos c] using f
    ·simpa [tokens,zEz,if_pos c,zgZ] using e
   ·obtain ⟨H1,i⟩:=zqG R j.2 [0] (fun _ => .slice none 0 0) (fun k n d => ⟨by
     cases k with
     | zero => simp at d; exact d.symm
     | succ k => simp at d,none,rfl⟩)
    have l : zz (g.nils σ.length fun _ => .slice none 0 0) w (σ ++ [.tok j.2 [0]]) (zFZ σ.length j.2) (.slice none 0 0):=by
     rw [zFZ,if_neg c,zz];refine ⟨zsF,0,zd3 (sz:=j.2) (fr:=[0]) (by simp) (by simp),yd _,fun _ => ?_,j.2,zct (fr:=[0]) (by simp),by simp only [zb9]⟩
     show _ = if σ.length = σ.length then _ else _
     rw [if_pos rfl]
    obtain ⟨g',m,f,e⟩:=zsL js i b (zmT (H1.zw _ _ h) p l);refine ⟨g',?_,?_,?_⟩
    ·have:=H1.trans m
     simpa [tokens,zEz,if_neg c] using this
    ·simpa [tokens,zEz,if_neg c] using f
    ·simpa [tokens,zEz,if_neg c,zgZ] using e
theorem zhz (R : Rel g w σ) {sz : Nat} {es : List (List C)} {us : List Value} (t : TypeId) (e : us.length = es.length * sz) (a : zci g w σ us.toArray sz es) :
  Ext g w σ (g.own σ.length w.heap.size) (w.alloc (.cells us.toArray t)) (σ ++ [.cells 0 sz es]) ∧ Rel (g.own σ.length w.heap.size) (w.alloc (.cells us.toArray t)) (σ ++ [.cells 0 sz es]) :=
 zvb R (.cells 0 sz es) (.cells us.toArray t) fun H b c d _ => ⟨by rw [b]; exact c,by rw [b]; exact d,us.toArray,t,by rw [b]; exact zbu w _,by simp [e],H.zci a⟩
theorem zlG (σ : zd) (o : Ob) : (σ ++ [o])[σ.length]? = some o:=by simp
theorem zuA {sz : Nat} {es : List (List C)} (o : Obj) : zf (g.own σ.length w.heap.size) (w.alloc o) (σ ++ [.cells 0 sz es]) (.one (.ptr σ.length 0 0 0)) (.pointer (some ⟨w.heap.size,0,none⟩)):=by
 simp only [zf,zz];exact ⟨0,sz,es.length,zu (zlG σ _),yd _,fun _ => by simp [G.own],_,rfl⟩
theorem zmY {sz : Nat} {es : List (List C)} {us : List Value} (t : TypeId) (a : us.length = es.length * sz) :
  zf (g.own σ.length w.heap.size) (w.alloc (.cells us.toArray t)) (σ ++ [.cells 0 sz es]) (.one (.own σ.length 0 0 es.length)) (.slice (some ⟨w.heap.size,0,none⟩) es.length es.length):=by
 simp only [zf,zz];refine ⟨0,sz,es.length,zu (zlG σ _),yd _,fun _ => ⟨_,_,rfl,yd _,fun h => h,fun _ => ⟨by omega,fun _ => by simp [G.own],us.toArray,t,?_,by simp [a]⟩⟩,_,_,rfl⟩;simpa [G.own] using zbu w (.cells us.toArray t)
theorem znZ {cs : List C} {us : List Value} (h : zw g w σ cs us) (k : ∀ u ∈ us,u.oneCell' = true) : zci g w σ us.toArray cs.length [cs]:=fun i e a => by
 cases i with
 | succ i => simp at a
 | zero =>
   simp at a;subst a;refine ⟨rfl,fun j c d => ?_⟩;obtain ⟨u,b,f⟩:=zeM h d;exact ⟨u,by simpa using b,f,k u (List.mem_of_getElem? b)⟩
theorem zBo (R : Rel g w σ) {sz : Nat} {xs : List (List Fz)} {us : List Value} (t : TypeId) (p : Lay w g.N sz xs us) :
  ∃ g',Ext g w σ g' (w.alloc (.cells us.toArray t)) (σ ++ [.tok sz [xs.length]]) ∧ Rel g' (w.alloc (.cells us.toArray t)) (σ ++ [.tok sz [xs.length]]) ∧
    zf g' (w.alloc (.cells us.toArray t)) (σ ++ [.tok sz [xs.length]]) (.one (.ap σ.length 0 xs)) (.slice (some ⟨w.heap.size,0,none⟩) xs.length xs.length):=by
 let g' : G:={ g with tv:=fun c k => if c = σ.length then .slice (some ⟨w.heap.size,0,none⟩) xs.length xs.length else g.tv c k,ow:=zzd g.ow w.heap.size (.tk σ.length 0),N:=fun b o => g.N b o ∨ (b = w.heap.size ∧ o < xs.length * sz) }
 have l : ∀ b,b < w.heap.size → g'.ow b = g.ow b:=fun b m => zaQ g.ow (k:=w.heap.size) (i:=b) _ (by omega);have y : ∀ b o,b < w.heap.size → (g'.N b o ↔ g.N b o):=fun b o m => ⟨fun h => h.elim id fun h => by omega,.inl⟩
 have f : ∀ c k,c < σ.length → g'.tv c k = g.tv c k:=fun c k h => by
  show (if c = σ.length then _ else g.tv c k) = _
  rw [if_neg (by omega)]
 have e : ∀ k,g'.tv σ.length k = .slice (some ⟨w.heap.size,0,none⟩) xs.length xs.length:=fun k => by
  show (if σ.length = σ.length then _ else _) = _
  rw [if_pos rfl]
 have H : Ext g w σ g' (w.alloc (.cells us.toArray t)) (σ ++ [.tok sz [xs.length]]) :=
  Ext.alloc R _ g' (fun _ _ => rfl) (fun c k n h => f c k (by obtain ⟨_,_,z,_⟩:=zdi h; exact zb z)) l y _
 have q:=zbu w (.cells us.toArray t);refine ⟨g',H,⟨fun b o h => ?_,fun id o h => ?_⟩,?_⟩
 ·rw [size_alloc]
  rcases h with h | h
  ·have:=R.nb b o h; omega
  ·omega
 ·by_cases d : id < σ.length
  ·rw [yb d] at h
   exact zdq H rfl (fun k => f id k d) (fun b m _ => ⟨heap_alloc_old w _ m,l b m,fun o => (y b o m).1⟩) (R.ob id o h)
  ·have s : id = σ.length:=by
    have:=zb h;simp at this;omega
   subst s;simp at h;subst h;intro k n u
   cases k with
   | succ k => simp at u
   | zero =>
     simp at u;subst u;rw [e];rcases Nat.eq_zero_or_pos xs.length with r | r
     ·exact .inl ⟨r,_,by rw [r]⟩
     ·refine .inr ⟨_,_,_,us.toArray,t,rfl,r,yd _,zhJ _ _ _,q,by simp [p.1],fun A a => ?_⟩
      rcases a with a | a
      ·exact absurd (R.nb _ _ a) (Nat.lt_irrefl _)
      ·have:=a.2; omega
 ·simp only [zf,zz]
  refine ⟨zxh p.2.1 (yd _) (zmd p H.keeps fun j v x => ?_),xs.length,zd3 (sz:=sz) (fr:=[xs.length]) (by simp) (by simp),yd _,fun _ => (e 0).symm,sz,zct (fr:=[xs.length]) (by simp),p.2.1⟩;have d:=zb x;rw [p.1] at d;refine ⟨.inr ⟨rfl,by omega⟩,?_⟩;rw [yt,ziQ q];simpa using x
theorem zCs (R : Rel g w σ) {sz : Nat} {xs : List (List Fz)} {us : List Value} (t : TypeId) (a : Lay w g.N sz xs us) :
  ∃ g',Ext g w σ g' (w.alloc (.cells us.toArray t)) σ ∧ Rel g' (w.alloc (.cells us.toArray t)) σ ∧
    zf g' (w.alloc (.cells us.toArray t)) σ (vsl xs) (.slice (some ⟨w.heap.size,0,none⟩) xs.length xs.length):=by
 obtain ⟨H,c⟩:=zuQ R (.cells us.toArray t);refine ⟨_,H,c,?_⟩;simp only [vsl,zf,zz];refine zxh a.2.1 (yd _) (zmd a H.keeps fun j v b => ⟨.inr rfl,?_⟩);rw [yt,ziQ (zbu w _)];simpa using b
end
end Go.A

/- A part of the proof of SchedFlat. Conditions: none. -/
import Derived.Test.YtmkncmffaaninaaGreatFAC
import Derived.Deep.MidRow
import Derived.Laws.AppendOwn
import Derived.Laws.MakeOwn
set_option linter.all false
open Option renaming map_eq_some_iff → ya,bind_eq_some_iff → ye,getD_some → yk,map_some → yn
open List renaming getElem?_append_left → yb,getElem?_eq_getElem → yc,getElem?_range → yf,getElem?_drop → yg,getElem?_map → yi,getElem?_take → yj,getElem_mem → yo,replicate → yp,mem_cons → yq,map_cons → yr,range → yu
open Nat renaming le_refl → yd,add_assoc → ym,zero_add → yt,add_mul → yv
open Array renaming getD_eq_getD_getElem? → yh
open Bool renaming and_eq_true → yl
namespace Go.A
section
variable {P : Program} {κ : List Tmp} {loc : List (Option Tmp)} {nt : Nat} {g : G} {w : World} {r r' : R} {a : Act} {o : Go.Oper} {d : D} {next : Act → World → Prop} {Q : Exit → Act → World → Prop}
theorem zwY {v : V} {u : Value} {n : Nat} {σ : zd} (a : zf g w σ v u) (h : zBP v = some n) : ∃ k,u = .int k (n : Int):=by
 unfold zBP at h;split at h
 ·rename_i k m
  split at h
  ·injection h with h
   obtain ⟨e,_⟩:=zM a;exact ⟨k,by rw [e,← h,Int.toNat_of_nonneg (by assumption)]⟩
  ·cases h
 ·cases h
theorem run_sliceBound {k : IntKind} {n y : Nat} (c : BoundsCode) (h : n ≤ y) : (Instr.sliceBound (.int k n) y c).run P w = .ok n w:=by
 have a : (n : Int) ≤ (y : Int):=by omega
 simp [Instr.sliceBound,asIntOf,a]
theorem zpL (b : Bool) {len cap lo e : Nat} {f d a : Option Value} (c : (f = none ∧ lo = 0) ∨ ∃ k,f = some (.int k lo)) (g : (d = none ∧ a = none ∧ e = len) ∨ ∃ k,d = some (.int k e))
  (l : a = none ∨ a = d) (h : lo ≤ e) (i : e ≤ cap) :
  (Instr.sliceBounds b len cap f d a).run P w = .ok (lo,e,if a.isSome then e else cap) w:=by
 rcases l with rfl | rfl
 ·rcases g with ⟨rfl,_,rfl⟩ | ⟨k,rfl⟩
  ·rcases c with ⟨rfl,rfl⟩ | ⟨j,rfl⟩
   ·simp [Instr.sliceBounds]
   ·simp [Instr.sliceBounds,run_sliceBound _ h]
  ·rcases c with ⟨rfl,rfl⟩ | ⟨j,rfl⟩
   ·simp [Instr.sliceBounds,run_sliceBound _ i]
   ·simp [Instr.sliceBounds,run_sliceBound _ h,run_sliceBound _ i]
 ·rcases g with ⟨rfl,_,rfl⟩ | ⟨k,rfl⟩
  ·rcases c with ⟨rfl,rfl⟩ | ⟨j,rfl⟩
   ·simp [Instr.sliceBounds]
   ·simp [Instr.sliceBounds,run_sliceBound _ h]
  ·rcases c with ⟨rfl,rfl⟩ | ⟨j,rfl⟩
   ·simp [Instr.sliceBounds,run_sliceBound _ i,run_sliceBound _ (yd e)]
   ·simp [Instr.sliceBounds,run_sliceBound _ h,run_sliceBound _ i,run_sliceBound _ (yd e)]
theorem zvh {t e : TypeId} {len cap lo c sz : Nat} {ad : Option Addr} {d b a : Option Value} (o : P.underlying t = some (.slice e)) (f : zjo P e = some sz) (l : (d = none ∧ lo = 0) ∨ ∃ k,d = some (.int k lo)) (h : (b = none ∧ a = none ∧ c = len) ∨ ∃ k,b = some (.int k c))
  (g : a = none ∨ a = b) (n : lo ≤ c) (m : c ≤ cap) :
  (Instr.sliceAt t (.slice ad len cap) d b a).run P w = .ok (.slice (if (if a.isSome then c else cap) = lo then ad else ad.map (·.add (lo * sz))) (c - lo) ((if a.isSome then c else cap) - lo)) w:=by
 unfold zjo at f
 cases j : P.info? e with
 | none => simp [j] at f
 | some inf =>
   have i : inf.size = sz:=(by simpa [j] using f);simp [Instr.sliceAt,Instr.slice,run_underlying o,zpL (w:=w) (P:=P) true l h g n m,sizeOf,typeInfo,j,i]
theorem zuh {N : zgd} {xs : List (List Fz)} {ad : Option Addr} {c lo d m sz : Nat} (h : rep w N (.sl xs) (.slice ad xs.length c)) (g : ∀ e ∈ xs,e.length = sz) (s : lo ≤ d) (n : d ≤ xs.length) (hm : d ≤ m) :
  rep w N (.sl ((xs.take d).drop lo)) (.slice (if m = lo then ad else ad.map (·.add (lo * sz))) (d - lo) (m - lo)):=by
 have hlen : ((xs.take d).drop lo).length = d - lo:=by simp; omega
 simp only [rep] at h ⊢;obtain ⟨o,r,f,e1,e2,e3,e4⟩:=h;injection e1 with e1 _ _;subst e1;rw [hlen];refine ⟨_,_,sz,rfl,by omega,zeW fun e he => g e (List.mem_of_mem_take (List.mem_of_mem_drop he)),?_⟩
 by_cases q : lo = d
 ·left
  exact List.eq_nil_of_length_eq_zero (by omega)
 ·right
  have k : m ≠ lo:=by omega
  rw [if_neg k];rcases e4 with rfl | ⟨b,p,rfl,e4⟩
  ·simp at n; omega
  ·have j : f = sz:=by
    have l : 0 < xs.length:=(by omega);rw [← zbS e3 (yc l)];exact g _ (yo l)
   subst j;refine ⟨b,p + lo * f,by simp [zaG],zfS fun i e a => ?_⟩;rw [yg,yj] at a;split at a
   ·have:=zfk e4 a
    rwa [yv,← ym] at this
   ·cases a
theorem zqH {b : Option Go.Operand} {x : Option X} {c n : Nat} (f : ∀ y,x = some y → ∃ y',b = some y' ∧ zf g w r.st (r.get y) (a.eval y')) (i : x = none → b = none) (h : bound r c x = some n) :
  (b.map a.eval = none ∧ n = c) ∨ ∃ k,b.map a.eval = some (.int k n):=by
 cases x with
 | none => simp [bound] at h; left; simp [i rfl,h]
 | some y =>
   obtain ⟨y',e,d⟩:=f y rfl;obtain ⟨k,j⟩:=zwY d h;right;exact ⟨k,by simp [e,j]⟩
theorem zoD {f : Nat → Nat → Option V} {x y : Option Nat} {v : V} (h : two f x y = some v) : ∃ m n,x = some m ∧ y = some n ∧ f m n = some v:=by
 unfold two at h;split at h
 ·exact ⟨_,_,rfl,rfl,h⟩
 ·cases h
theorem zkM {sz : Nat} : ∀ {xs : List (List Fz)},zn4 sz xs = true → ∀ e ∈ xs,e.length = sz
 | [],_,e,he => by simp at he
 | x :: xs,h,e,he => by
   simp only [zn4,yl,decide_eq_true_eq] at h;rcases yq.1 he with rfl | he
   ·exact h.1
   ·exact zkM h.2 e he
def Opt (g : G) (w : World) (r : R) (a : Act) (x : Option Operand) (y : Option X) : Prop:=(∀ z,y = some z → ∃ z',x = some z' ∧ zf g w r.st (r.get z) (a.eval z')) ∧ (y = none → x = none)
theorem zyn {t e : TypeId} {sz : Nat} {x : Operand} {lo B p : Option Operand} {z j : Option X} {d : Bool} (U : o.op = .slice t x lo B p) (Y : P.underlying t = some (.slice e)) (O : zjo P e = some sz)
  (G : Opt g w r a lo z) (D : Opt g w r a B j) (y : (p = none ∧ d = false) ∨ (d = true ∧ j.isSome = true ∧ p.map a.eval = B.map a.eval))
  {M v : V} (I : zf g w r.st M (a.eval x)) (h : zFg r sz z j d M = some v) :
  ∃ u,(execOp a.eval o).run P w = .ok (.value u) w ∧ zf g w r.st v u:=by
 have key : ∀ {ad : Option Addr} {len cap l h' : Nat},a.eval x = .slice ad len cap → bound r 0 z = some l → bound r len j = some h' → l ≤ h' → h' ≤ cap →
   ∃ m,h' ≤ m ∧ (d = false → m = cap) ∧ (execOp a.eval o).run P w = .ok (.value (.slice (if m = l then ad else ad.map (·.add (l * sz))) (h' - l) (m - l))) w:=by
  intro ad len cap l h' ex s A b R;have b1:=zqH (a:=a) G.1 G.2 s;have b2:=zqH (a:=a) D.1 D.2 A
  have bb : (B.map a.eval = none ∧ p.map a.eval = none ∧ h' = len) ∨ ∃ k,B.map a.eval = some (.int k h'):=by
   rcases b2 with ⟨b2,b3⟩ | b2
   ·rcases y with ⟨rfl,_⟩ | ⟨_,S,em⟩
    ·exact .inl ⟨b2,rfl,b3⟩
    ·exact .inl ⟨b2,by rw [em]; exact b2,b3⟩
   ·exact .inr b2
  have bm : p.map a.eval = none ∨ p.map a.eval = B.map a.eval:=by
   rcases y with ⟨rfl,_⟩ | ⟨_,_,em⟩
   ·exact .inl rfl
   ·exact .inr em
  have C:=zvh (P:=P) (w:=w) (ad:=ad) Y O b1 bb bm b R;refine ⟨if (p.map a.eval).isSome = true then h' else cap,?_,?_,?_⟩
  ·split <;> omega
  ·intro Q
   rcases y with ⟨rfl,_⟩ | ⟨h,_⟩
   ·simp
   ·rw [Q] at h; cases h
  ·unfold execOp
   simp only [U,ex,Sem.run_bind,C,Result.andThen_ok,Sem.run_pure]
 unfold zFg at h;split at h
 ·rename_i xs
  obtain ⟨l,h',s,A,b⟩:=zoD h;unfold zzQ at b;split at b
  ·rename_i f
   injection b with b;subst b;have q:=zrH I;obtain ⟨ad,c,e1,e2⟩:=zj4 q;rw [e1] at q;obtain ⟨m,H,_,E⟩:=key e1 s A f.1 (by omega);refine ⟨_,E,?_⟩;simp only [vsl,zf,zy];exact zuh q (zkM f.2.2) f.1 f.2.1 H
  ·cases b
 ·rename_i xs
  obtain ⟨l,h',s,A,b⟩:=zoD h;unfold zzQ at b;split at b
  ·rename_i f
   injection b with b;subst b;have q:=zsv I;obtain ⟨ad,c,e1,e2⟩:=zj4 q;rw [e1] at q;obtain ⟨m,H,_,E⟩:=key e1 s A f.1 (by omega);refine ⟨_,E,?_⟩;simp only [vsl,zf,zy];exact zuh q (zkM f.2.2) f.1 f.2.1 H
  ·cases b
 ·rename_i id L N n
  split at h
  ·cases h
  ·rename_i K
   obtain ⟨l,h',s,A,b⟩:=zoD h;unfold zyk at b;split at b
   ·rename_i f
    injection b with b;subst b;obtain ⟨c1,c2,c3⟩:=f
    cases i : r.st[id]? with
    | none => simp [i] at c3
    | some ob =>
      simp [i] at c3;obtain ⟨es,rfl⟩:=zkp c3;obtain ⟨ad,c,e1,e2,e3,e4⟩:=zgJ I i;obtain ⟨m,H,W,E⟩:=key e1 s A c1 (by omega);have hm:=W (by simpa using K);subst hm;refine ⟨_,E,?_⟩;simp only [zf,zy];refine ⟨L,sz,es.length,zt i,yd _,fun _ => ⟨_,_,rfl,by omega,fun J => by have:=e3 J; omega,fun J => ?_⟩,_,_,rfl⟩;obtain ⟨f1,f2,arr,ty,f3,f4⟩:=e4 J;refine ⟨by omega,fun Z => ?_,arr,ty,f3,?_⟩
      ·rw [if_neg (by omega),f2 (by omega)]
       simp [zaG,yv]
      ·have : (N + l + (m - l)) = N + m:=by omega
       rw [this]; exact f4
   ·cases b
 ·cases h
theorem zjI {σ : zd} : ∀ {vs : List V} {us : List Value},zz g w σ vs us → ∀ {i : Nat} {v : V},vs[i]? = some v → ∃ u,us[i]? = some u ∧ zf g w σ v u
 | [],_,_,i,v,h => by simp at h
 | x :: vs,us,hr,i,v,h => by
   simp only [zz] at hr;obtain ⟨u,us',rfl,b,a⟩:=hr
   cases i with
   | zero => simp at h; subst h; exact ⟨u,by simp,b⟩
   | succ i => simpa using zjI a (i:=i) (v:=v) (by simpa using h)
theorem zAp {x : Operand} {i : Nat} (k : o.op = .extract x i) {c v : V} (d : zf g w r.st c (a.eval x)) (h : zFt i c = some v) :
  ∃ u,(execOp a.eval o).run P w = .ok (.value u) w ∧ zf g w r.st v u:=by
 unfold zFt at h;split at h
 ·simp only [zf] at d
  obtain ⟨us,e,j⟩:=d;obtain ⟨u,hu,f⟩:=zjI j h;refine ⟨u,?_,f⟩;have b : us[i]? = some u:=by simpa using hu
  unfold execOp;simp [k,e,Instr.extract,b]
 ·cases h
theorem zAI {x : Operand} (c : o.op = .nilCheck x) {d v : V} (b : zf g w r.st d (a.eval x)) (h : zFv d = some v) :
  ∃ u,(execOp a.eval o).run P w = .ok (.value u) w ∧ zf g w r.st v u:=by
 unfold zFv at h;split at h
 ·injection h with h
  subst h;refine ⟨a.eval x,?_,b⟩;simp only [zf,zy] at b;obtain ⟨_,_,_,_,_,_,ad,e⟩:=b;unfold execOp;simp [c,e]
 ·injection h with h
  subst h;refine ⟨a.eval x,?_,b⟩;simp only [zf,zy] at b;obtain ⟨_,_,e,_⟩:=b;unfold execOp;simp [c,e]
 ·injection h with h
  subst h;refine ⟨a.eval x,?_,b⟩;simp only [zf,zy] at b;obtain ⟨_,_,e,_⟩:=b;unfold execOp;simp [c,e]
 ·cases h
theorem zAn {b : Builtin} {isMax : Bool} {x y : Operand} {c : Go.Call} (j : o.op = .call c) (i : c.callee = .builtin b) (e : b = if isMax then .max else .min) (d : c.args = #[x,y])
  {f l v : V} (p : zf g w r.st f (a.eval x)) (s : zf g w r.st l (a.eval y)) (h : zFq isMax f l = some v) :
  ∃ u,(execOp a.eval o).run P w = .ok (.value u) w ∧ zf g w r.st v u:=by
 unfold zFq at h;split at h
 ·rename_i k m t n
  split at h
  ·rename_i q
   subst q;injection h with h;subst h;obtain ⟨ex,_⟩:=zM p;obtain ⟨ey,_⟩:=zM s;cases isMax
   ·simp at e
    subst e;refine ⟨.int k (min m n),?_,zT rfl⟩;unfold execOp;simp [j,resolve,i,d,ex,ey,invoke,builtin,Builtin.min_,Builtin.min2];omega
   ·simp at e
    subst e;refine ⟨.int k (max m n),?_,zT rfl⟩;unfold execOp;simp [j,resolve,i,d,ex,ey,invoke,builtin,Builtin.max_,Builtin.max2];omega
  ·cases h
 ·cases h
end
section
variable {P : Program} {κ : List Tmp} {loc : List (Option Tmp)} {nt : Nat} {g : G} {w : World} {r r' : R} {a : Act} {o : Go.Oper} {d : D} {next : Act → World → Prop} {Q : Exit → Act → World → Prop}
theorem zy0 {σ : zd} {id b i : Nat} {e : List C} (h : σ.elem id b i = some e) : ∃ sz es,σ[id]? = some (.cells b sz es) ∧ es[i]? = some e:=by
 unfold zd.elem at h;rw [ye] at h;obtain ⟨g,d,a⟩:=h;unfold Ob.elem at a;split at a
 ·rename_i c sz es
  split at a
  ·rename_i f
   subst f;exact ⟨sz,es,d,a⟩
  ·cases a
 ·cases a
theorem zqu (I : Rel g w r.st) {id n i off : Nat} {e : List C} {u : Value} (he : r.st.elem id n i = some e) (s : zf g w r.st (.one (.ptr id n i off)) u) :
  ∃ b o us,u = .pointer (some ⟨b,o + off,none⟩) ∧ us.length = e.length ∧ zv g w r.st e us ∧ (∀ v ∈ us,v.oneCell' = true) ∧ ∀ j v,us[j]? = some v → w.cell? ⟨b,o + j,none⟩ = some v:=by
 obtain ⟨sz,es,A,x⟩:=zy0 he;have q : es ≠ []:=fun h => by subst h; simp at x
 obtain ⟨_,_,arr,t,G,M,B⟩:=I.ob id _ A q;simp only [zf,zy] at s;obtain ⟨v0,K,len,m,L,J,_⟩:=s;rw [zt A] at m;injection m with m;injection m with e1 m;injection m with e2 e3;subst e1 e2 e3;have hu:=J rfl;obtain ⟨D,a⟩:=B i e x;refine ⟨g.ρ id,i * sz,(yu e.length).map fun j => arr.getD (i * sz + j) undef,hu,by simp,zkK (by simp) fun j c v y d => ?_,fun v d => ?_,fun j v d => ?_⟩
 ·obtain ⟨z,l,H,_⟩:=a j c y
  rw [yi,yf (zb y)] at d;simp only [yn,Option.some.injEq] at d;rw [← d];simp only [yh,l,yk];exact H
 ·rw [List.mem_map] at d
  obtain ⟨j,p,rfl⟩:=d;rw [List.mem_range] at p;obtain ⟨z,l,_,E⟩:=a j _ (yc p);simp only [yh,l,yk];exact E
 ·rw [yi] at d
  have p:=d
  cases k : (yu e.length)[j]? with
  | none => rw [k] at d; cases d
  | some j' =>
    have f:=zb k;simp at f;rw [yf f] at k;injection k with k;subst k;rw [yf f] at d;simp only [yn,Option.some.injEq] at d;obtain ⟨z,l,_,_⟩:=a j _ (yc f);rw [zh1 G,l,← d];simp only [yh,l,yk]
theorem zjO {t : TypeId} {b : Bool} (h : zlD P t = some b) : (isAgg t).run P w = .ok b w:=by
 unfold zlD at h
 cases hu : P.underlying t with
 | none => simp [hu] at h
 | some de =>
   simp [hu] at h;subst h;unfold isAgg;rw [Sem.run_bind,run_underlying hu w];cases de <;> rfl
theorem zk3 {t : TypeId} {ad : Addr} {v : Value} (h : zlD P t = some false) (a : w.cell? ad = some v) : (Instr.loadAt t (.pointer (some ad))).run P w = .ok v w:=by
 simp [Instr.loadAt,Instr.sureAddr,loadVar,zjO (w:=w) h,a]
theorem zkW {t : TypeId} {b o n : Nat} {vs : List Value} (h : zlD P t = some true) (a : zjo P t = some n) (g : vs.length = n) (f : ∀ j v,vs[j]? = some v → w.cell? ⟨b,o + j,none⟩ = some v) :
  (Instr.loadAt t (.pointer (some ⟨b,o,none⟩))).run P w = .ok (.agg vs.toArray) w:=by
 have i : (loadCells ⟨b,o,none⟩ n).run P w = .ok vs.toArray w:=by
  rw [← g];exact run_loadCells_list (P:=P) w ⟨b,o,none⟩ vs (fun j v e => by rw [zaG]; exact f j v e)
 unfold zjo at a
 cases d : P.info? t with
 | none => simp [d] at a
 | some inf =>
   have c : inf.size = n:=(by simpa [d] using a);simp [Instr.loadAt,Instr.sureAddr,loadVar,zjO (w:=w) h,sizeOf,typeInfo,d,c,i]
theorem zsm {α : Type} {o n : Nat} {e x : List α} (h : cut o n e = some x) : o + n ≤ e.length ∧ x = (e.drop o).take n:=by
 unfold cut at h;split at h
 ·injection h with h; exact ⟨by assumption,h.symm⟩
 ·cases h
theorem zsX {σ : zd} {e : List C} {us : List Value} (h : zv g w σ e us) (o n : Nat) : zv g w σ ((e.drop o).take n) ((us.drop o).take n):=by
 have d:=zI h;refine zkK (by simp [d]) fun j c u a hu => ?_;rw [yj] at a hu;split at a
 ·rw [if_pos (by assumption),yg] at hu
  rw [yg] at a;obtain ⟨i,f,b⟩:=zei h a;rw [f] at hu;injection hu with hu;rw [← hu];exact b
 ·cases a
theorem zoN {σ : zd} : ∀ {cs : List Fz} {us : List Value},us.length = cs.length → (∀ (j : Nat) (x : Fz) (u : Value),cs[j]? = some x → us[j]? = some u → rep w g.N x u) → zv g w σ (cs.map C.f) us
 | cs,us,hl,h => zkK (by simpa using hl) fun j c u a hu => by
   rw [yi,ya] at a;obtain ⟨x,b,rfl⟩:=a;simp only [zy];exact h j x u b hu
theorem zvt (K : Rel g w r.st) {t : TypeId} {x : Operand} {sz : Option Nat} (D : o.op = .load t x) (k : match sz with
   | none => zlD P t = some false
   | some n => zlD P t = some true ∧ zjo P t = some n)
  {J v : V} (d : zf g w r.st J (a.eval x)) (h : ald r.st sz J = some v) :
  ∃ u,(execOp a.eval o).run P w = .ok (.value u) w ∧ zf g w r.st v u:=by
 unfold ald at h;split at h
 ·
  rename_i id H i off;rw [ya] at h;obtain ⟨c,f,rfl⟩:=h;unfold zd.cell at f;rw [ye] at f;obtain ⟨e,f,E⟩:=f;obtain ⟨b,A,us,z,C,I,_,q⟩:=zqu K f d;obtain ⟨u,M,L⟩:=zei I E;refine ⟨u,?_,L⟩;unfold execOp;simp only [D,z];simp [zk3 (P:=P) (w:=w) k (q off u M)]
 ·
  rename_i cs off;rw [ya] at h;obtain ⟨y,f,rfl⟩:=h;simp only [zf,zy] at d;obtain ⟨b,A,z,C⟩:=d;obtain ⟨u,_,B,q⟩:=zgO C f;refine ⟨u,?_,by simpa only [vf,zf,zy] using q⟩;unfold execOp;simp only [D,z];simp [zk3 (P:=P) (w:=w) k B]
 ·
  rename_i n id H i off;rw [ya] at h;obtain ⟨Q,f,rfl⟩:=h;rw [ye] at f;obtain ⟨e,f,E⟩:=f;obtain ⟨hle,rfl⟩:=zsm E;obtain ⟨b,A,us,z,C,I,_,q⟩:=zqu K f d;refine ⟨.agg ((us.drop off).take n).toArray,?_,?_⟩
  ·unfold execOp
   simp only [D,z]
   simp [zkW (P:=P) (w:=w) (b:=b) (o:=A + off) (vs:=(us.drop off).take n) k.1 k.2 (by simp; omega) (fun j v m => by
    rw [yj] at m;split at m
    ·rw [yg] at m
     have:=q _ _ m
     rwa [← ym] at this
    ·cases m)]
  ·simp only [zf]
   exact ⟨_,rfl,by simpa using zsX I off n⟩
 ·rename_i n cs off
  rw [ya] at h;obtain ⟨Q,f,rfl⟩:=h;obtain ⟨hle,rfl⟩:=zsm f;simp only [zf,zy] at d;obtain ⟨b,A,z,C⟩:=d
  have p : ∀ j,j < n → ∃ u,w.cell? ⟨b,A + off + j,none⟩ = some u ∧ ∀ x,cs[off + j]? = some x → rep w g.N x u:=fun j G => by
   obtain ⟨u,_,B,q⟩:=zgO C (yc (by omega : off + j < cs.length));refine ⟨u,by rwa [ym],fun x d => ?_⟩;rw [yc (by omega : off + j < cs.length)] at d;injection d with d;rw [← d]; exact q
  let us : List Value:=(yu n).map fun j => (w.cell? ⟨b,A + off + j,none⟩).getD undef
  refine ⟨.agg us.toArray,?_,?_⟩
  ·unfold execOp
   simp only [D,z]
   simp [zkW (P:=P) (w:=w) (b:=b) (o:=A + off) (vs:=us) k.1 k.2 (by simp [us]) (fun j v m => by
    simp only [us,yi,ya] at m;obtain ⟨R,l,m⟩:=m;have s:=zb l;simp at s;rw [yf s] at l;injection l with l;subst l;obtain ⟨u,B,_⟩:=p j s;rw [B] at m ⊢
    simpa using m)]
  ·simp only [zAN,zf]
   refine ⟨us.toArray,rfl,zoN (by simp [us]; omega) fun j x u d hu => ?_⟩;rw [yj] at d;split at d
   ·rename_i G
    rw [yg] at d;obtain ⟨O,B,q⟩:=p j G
    have : us[j]? = some O:=by
     simp only [us,yi,yf G,yn,B,yk]
    rw [show us.toArray.toList = us from by simp,this] at hu;injection hu with hu;rw [← hu];exact q x d
   ·cases d
 ·cases h
theorem zz0 {t : TypeId} {x : Operand} {i off : Nat} {sz : Option Nat} {C : Array Field} {f : Field} (A : o.op = .field t x i) (B : P.underlying t = some (.struct C)) (y : C[i]? = some f) (j : f.offset = off)
  (b : match sz with
   | none => zlD P f.type = some false
   | some n => zlD P f.type = some true ∧ zjo P f.type = some n)
  {z v : V} (k : zf g w r.st z (a.eval x)) (h : zFb off sz z = some v) :
  ∃ u,(execOp a.eval o).run P w = .ok (.value u) w ∧ zf g w r.st v u:=by
 subst j;unfold zFb at h;split at h
 ·rename_i cs
  rw [ya] at h;obtain ⟨c,q,rfl⟩:=h;simp only [zf] at k;obtain ⟨us,e,p⟩:=k;obtain ⟨u,E,G⟩:=zei p q;have m : us[f.offset]? = some u:=by simpa using E
  refine ⟨u,?_,G⟩;unfold execOp;simp [A,e,Instr.field,run_underlying B,y,asAgg,part,zjO (w:=w) b,m]
 ·rename_i n cs
  rw [ya] at h;obtain ⟨D,q,rfl⟩:=h;obtain ⟨hle,rfl⟩:=zsm q;simp only [zf] at k;obtain ⟨us,e,p⟩:=k;refine ⟨.agg (us.extract f.offset (f.offset + n)),?_,?_⟩
  ·have l:=b.2
   unfold zjo at l
   cases s : P.info? f.type with
   | none => simp [s] at l
   | some inf =>
     have d : inf.size = n:=(by simpa [s] using l);unfold execOp;simp [A,e,Instr.field,run_underlying B,y,asAgg,part,zjO (w:=w) b.1,sizeOf,typeInfo,s,d]
  ·simp only [zf]
   refine ⟨_,rfl,?_⟩;have:=zsX p f.offset n
   have e2 : (us.extract f.offset (f.offset + n)).toList = (us.toList.drop f.offset).take n:=by
    rw [Array.toList_extract];simp [List.extract,Nat.add_sub_cancel_left]
   rw [e2];exact this
 ·cases h
def zx6 (κ : List Tmp) (loc : List (Option Tmp)) : List Operand → List X → Bool
 | [],[] => true
 | x :: xs,y :: ys => okX κ loc x y && zx6 κ loc xs ys
 | _,_ => false
theorem Fr.gets (F : Fr κ loc nt g w r a) : ∀ {xs : List Operand} {ys : List X},zx6 κ loc xs ys = true → zz g w r.st (r.gets ys) (xs.map a.eval)
 | [],[],_ => by simp [R.gets,zz]
 | x :: xs,y :: ys,h => by
   simp only [zx6,yl] at h;simp only [R.gets,zz,yr];exact ⟨_,_,rfl,F.get h.1,F.gets h.2⟩
 | [],_ :: _,h => by simp [zx6] at h
 | _ :: _,[],h => by simp [zx6] at h
theorem zsG {σ : zd} : ∀ {vs : List V} {us : List Value},zz g w σ vs us → zv g w σ (vs.map V.c1) us
 | [],us,h => by simpa only [zz,zv,List.map_nil] using h
 | v :: vs,us,h => by
   simp only [zz] at h;obtain ⟨x,xs,rfl,a,b⟩:=h;simp only [yr,zv];refine ⟨x,xs,rfl,?_,zsG b⟩
   cases v with
   | one c => simpa only [V.c1,zf] using a
   | agg cs => simp only [V.c1,zy]
   | tup cs => simp only [V.c1,zy]
theorem zzc (F : Fr κ loc nt g w r a) {f : Nat} {first d : Array Operand} {b c : List X} (h : o.op = .makeFunc (.func f) first d) (e : zx6 κ loc first.toList b = true) (i : zx6 κ loc d.toList c = true) :
  ∃ u,(execOp a.eval o).run P w = .ok (.value u) w ∧ zf g w r.st (.one (.fn f ((r.gets b).map V.c1) ((r.gets c).map V.c1))) u:=by
 refine ⟨.func (.func f) (first.map a.eval) (d.map a.eval),?_,?_⟩
 ·unfold execOp
  simp [h,Instr.makeFunc]
 ·simp only [zf,zy]
  exact ⟨_,_,rfl,by simpa using zsG (F.gets e),by simpa using zsG (F.gets i)⟩
end
structure Low (base lim : Nat) (σ : zd) : Prop where
 le : True
theorem Low.append {base lim : Nat} {σ : zd} (_ : Low base lim σ) (os : List Ob) : Low base lim (σ ++ os):=⟨trivial⟩
theorem Low.set {base lim : Nat} {σ : zd} (_ : Low base lim σ) {id : Nat} {o : Ob} : Low base lim (σ.set id o):=⟨trivial⟩
def zpE (κ : List Tmp) (loc : List (Option Tmp)) (nt : Nat) (g : G) (w : World) (r r' : R) (pa : Value → Act) (next : Act → World → Prop) : Prop :=
 ∀ g' w' u,Ext g w r.st g' w' r'.st → Rel g' w' r'.st → Low r.base r.lim r'.st → Fr κ loc nt g' w' r' (pa u) → next (pa u) w'
section
variable {P : Program} {κ : List Tmp} {loc : List (Option Tmp)} {nt : Nat} {g : G} {w : World} {r r' : R} {a : Act} {o : Go.Oper} {d : D} {next : Act → World → Prop} {Q : Exit → Act → World → Prop}
theorem zl7 (e : Rel g w r.st) (L : Low r.base r.lim r.st) (F : Fr κ loc nt g w r a) (hd : okD κ nt o.dst d = true) {v : V} {u : Value} (b : (execOp a.eval o).run P w = .ok (.value u) w) (c : zf g w r.st v u)
  (k : zpE κ (za5 o.dst d :: loc) nt g w r (r.put d v) (a.put o.dst) next) : o.wp P a w next Q:=by
 refine zmc b (k g w _ ?_ ?_ ?_ (F.put hd fun _ => c)) <;> rw [zeZ]
 ·exact Ext.refl _ _ _
 ·exact e
 ·exact L
theorem zbx {g' : G} {w' : World} {r1 : R} (F : Fr κ loc nt g w r a) (hd : okD κ nt o.dst d = true) (H : Ext g w r.st g' w' r1.st) (h : Rel g' w' r1.st) (e : Low r.base r.lim r1.st) (he : r1.env = r.env) (c : r1.rs = r.rs)
  {v : V} {u : Value} (b : (execOp a.eval o).run P w = .ok (.value u) w') (f : zf g' w' r1.st v u)
  (k : zpE κ (za5 o.dst d :: loc) nt g w r (r1.put d v) (a.put o.dst) next) : o.wp P a w next Q:=by
 refine zmc b (k g' w' _ ?_ ?_ ?_ ((F.ext H he c).put hd fun _ => f)) <;> rw [zeZ]
 ·exact H
 ·exact h
 ·exact e
theorem zsk {g' : G} {w' : World} {r1 : R} (F : Fr κ loc nt g w r a) (hd : okD κ nt o.dst d = true) (e : d = .no) (H : Ext g w r.st g' w' r1.st) (i : Rel g' w' r1.st) (f : Low r.base r.lim r1.st) (he : r1.env = r.env) (c : r1.rs = r.rs)
  (b : (execOp a.eval o).run P w = .ok .skip w') (k : zpE κ (za5 o.dst d :: loc) nt g w r (r1.put d vun) (a.put o.dst) next) : o.wp P a w next Q:=by
 refine zBg b (k g' w' _ ?_ ?_ ?_ ((F.ext H he c).put hd fun h => absurd e h)) <;> rw [zeZ]
 ·exact H
 ·exact i
 ·exact f
theorem zpS {N : zgd} {x : Fz} {u : Value} (h : rep w N x u) : u.oneCell' = true:=by
 cases x with
 | lit v =>
   simp only [rep] at h;rw [h.1];have:=h.2;cases v <;> simp_all [zxS,Value.oneCell']
 | sl xs =>
   obtain ⟨_,_,e,_⟩:=zj4 h;rw [e];rfl
theorem zvV {σ : zd} {c : C} {u : Value} (h : zy g w σ c u) (a : c ≠ .un) : u.oneCell' = true:=by
 cases c with
 | f x => simp only [zy] at h; exact zpS h
 | ap t k xs => simp only [zy] at h; exact zpS h.1
 | ptr id ver i off => simp only [zy] at h; obtain ⟨_,_,_,_,_,_,_,e⟩:=h; rw [e]; rfl
 | fp cs off => simp only [zy] at h; obtain ⟨_,_,e,_⟩:=h; rw [e]; rfl
 | own id ver lo n => simp only [zy] at h; obtain ⟨_,_,_,_,_,_,_,_,e⟩:=h; rw [e]; rfl
 | map id => simp only [zy] at h; rw [h.2]; rfl
 | fn f x y => simp only [zy] at h; obtain ⟨_,_,e,_⟩:=h; rw [e]; rfl
 | un => exact absurd rfl a
theorem zzK : ∀ {cs : List C},C.kns cs = true → ∀ c ∈ cs,c ≠ .un
 | [],_,c,h => by simp at h
 | x :: cs,hk,c,h => by
   cases x <;> simp only [C.kns] at hk <;> first
    | (cases hk; done)
    | (rcases yq.1 h with rfl | h
       ·simp
       ·exact zzK hk c h)
theorem zAH {σ : zd} {cs : List C} {us : List Value} (h : zv g w σ cs us) (e : C.kns cs = true) : ∀ u ∈ us,u.oneCell' = true:=fun u hu => by
 obtain ⟨j,c⟩:=List.mem_iff_getElem?.1 hu;have a:=zb c;rw [zI h] at a;obtain ⟨f,b,d⟩:=zei h (yc a);rw [c] at b;injection b with b;subst b;exact zvV d (zzK e _ (yo a))
theorem ztP {u : Value} (h : u.oneCell' = true) : u.cells = #[u]:=by cases u <;> simp_all [Value.oneCell',Value.cells]
theorem zkt {σ : zd} {v : V} {u : Value} (h : zf g w σ v u) (f : C.kns v.cells = true) (j : 0 < v.cells.length) : zv g w σ v.cells u.cells.toList ∧ ∀ x ∈ u.cells.toList,x.oneCell' = true:=by
 cases v with
 | one c =>
   simp only [zf] at h;have i : c ≠ .un:=zzK (cs:=[c]) f c (by simp);have a:=zvV h i;rw [ztP a];simp only [V.cells,zv];exact ⟨⟨u,[],rfl,h,rfl⟩,fun x b => by simp at b; rw [b]; exact a⟩
 | agg cs =>
   simp only [zf] at h;obtain ⟨us,e,d⟩:=h;rw [e];exact ⟨d,zAH d f⟩
 | tup vs => simp [V.cells] at j
mutual
theorem znx {σ : zd} : ∀ (c : C) (u : Value),zy g w σ c u → c.lt σ.length = true
 | .f _,_,_ => by simp [C.lt]
 | .ap t k xs,u,h => by
   simp only [zy] at h;obtain ⟨_,n,d,_⟩:=h;obtain ⟨_,_,a,_⟩:=zcR d;simpa [C.lt] using zb a
 | .ptr id ver i off,u,h => by
   simp only [zy] at h;obtain ⟨_,_,_,b,_⟩:=h;obtain ⟨_,a,_⟩:=zaM b;simpa [C.lt] using zb a
 | .fp _ _,_,_ => by simp [C.lt]
 | .own id ver lo n,u,h => by
   simp only [zy] at h;obtain ⟨_,_,_,b,_⟩:=h;obtain ⟨_,a,_⟩:=zaM b;simpa [C.lt] using zb a
 | .map id,u,h => by
   simp only [zy] at h;obtain ⟨⟨_,a⟩,_⟩:=h;simpa [C.lt] using zb a
 | .fn f x y,u,h => by
   simp only [zy] at h;obtain ⟨e,cs,_,d,a⟩:=h;simp [C.lt,zoB x _ d,zoB y _ a]
 | .un,_,_ => by simp [C.lt]
theorem zoB {σ : zd} : ∀ (cs : List C) (us : List Value),zv g w σ cs us → C.lts σ.length cs = true
 | [],_,_ => by simp [C.lts]
 | c :: cs,us,h => by
   simp only [zv] at h;obtain ⟨v,vs,_,b,a⟩:=h;simp [C.lts,znx c v b,zoB cs vs a]
end
theorem zAq {n : Nat} : ∀ {cs : List C},C.lts n cs = true ↔ ∀ c ∈ cs,c.lt n = true
 | [] => by simp [C.lts]
 | c :: cs => by simp [C.lts,zAq]
theorem zvM {n : Nat} : ∀ {es : List (List C)},C.ltss n es = true ↔ ∀ e ∈ es,C.lts n e = true
 | [] => by simp [C.ltss]
 | c :: cs => by simp [C.ltss,zvM]
theorem zvf {t : TypeId} {b o : Nat} {arr : Array Value} {ty : TypeId} {u : Value} {n : Nat} (d : zjo P t = some n) (g : u.cells.size = n) (i : w.heap[b]? = some (.cells arr ty (0,0))) (a : o + n ≤ arr.size) (h : ∀ x ∈ u.cells.toList,x.oneCell' = true) :
  (Instr.storeAt t (.pointer (some ⟨b,o,none⟩)) u).run P w = .ok () (w.setRow b (zcP arr o u.cells.toList)):=by
 have c:=run_storeCells_at P b o ty u.cells.toList 0 arr w i (by simpa [g] using a) h;simp only [Nat.add_zero] at c;unfold zjo at d
 cases f : P.info? t with
 | none => simp [f] at d
 | some inf =>
   have e : inf.size = n:=(by simpa [f] using d);simp [Instr.storeAt,Instr.sureAddr,storeVar,sizeOf,typeInfo,f,e,g,c,zcP]
theorem zBl (S : Rel g w r.st) (L : Low r.base r.lim r.st) (F : Fr κ loc nt g w r a) {t : TypeId} {x v : Operand} {sz : Nat} (K : o.op = .store t x v) (hd : okD κ nt o.dst d = true) (A : d = .no) (H : zjo P t = some sz) (Z : 0 < sz)
  {C G : V} (B : zf g w r.st C (a.eval x)) (O : zf g w r.st G (a.eval v)) {r1 : R} (h : ast r sz G.cells C = some r1)
  (k : zpE κ (za5 o.dst d :: loc) nt g w r (r1.put d vun) (a.put o.dst) next) : o.wp P a w next Q:=by
 unfold ast at h;split at h
 ·rename_i id W i off
  split at h
  ·rename_i hlen
   unfold R.write at h;split at h
   ·rename_i j
    rw [ya] at h;obtain ⟨J,s,rfl⟩:=h;rw [ye] at s;obtain ⟨ob,s,b⟩:=s;unfold Ob.write at b;split at b
    ·rename_i p f es
     split at b
     ·rename_i q
      subst q;rw [ya] at b;obtain ⟨X,b,rfl⟩:=b;rw [ye] at b;obtain ⟨e,b,N⟩:=b;obtain ⟨D,E⟩:=zkt O j (by omega);obtain ⟨arr,ty,Y,c,U,M⟩:=zuv S s b N D E
      have z : a.eval x = .pointer (some ⟨g.ρ id,i * f + off,none⟩):=by
       simp only [zf,zy] at B;obtain ⟨v0,s0,l0,m1,_,I,_⟩:=B;rw [zt s] at m1;injection m1 with m1;injection m1 with e1 m1;injection m1 with e2 e3;subst e1 e2;exact I rfl
      have y:=zI D;have l : (a.eval v).cells.size = sz:=(by rw [← hlen,← y]; simp);refine zsk (r1:=r.setOb id (upd p f i es X)) F hd A U M L.set rfl rfl ?_ k
      ·unfold execOp
       simp only [K,z];have m:=zvf (P:=P) (w:=w) (u:=a.eval v) (n:=sz) (o:=i * f + off) H l Y (by rw [y,hlen] at c; exact c) E;simp only [Sem.run_bind,m,Result.andThen_ok,Sem.run_pure]
     ·cases b
    ·cases b
   ·cases h
  ·cases h
 ·cases h
end
def zeroOf (P : Program) (t : TypeId) : Option (List Value):=((P.info? t).bind (·.zero)).map fun z => z.cells.toList
def zg8 (zs : List Value) : List (Nat × Nat) → Bool
 | [] => true
 | j :: js => (match zs[j.1]? with
   | some (.slice none 0 0) => true
   | _ => false) && zg8 zs js
def G.nils (g : G) (t : Nat) (f : Nat → Value) : G:={ g with tv:=fun t' k => if t' = t then f k else g.tv t' k }
section
variable {g : G} {w : World} {σ : zd}
theorem zwd (R : Rel g w σ) (ob : Ob) (f : Nat → Value) (e : ∀ {σ' : zd},Ext g w σ (g.nils σ.length f) w σ' → zAO (g.nils σ.length f) w σ' σ.length ob) :
  Ext g w σ (g.nils σ.length f) w (σ ++ [ob]) ∧ Rel (g.nils σ.length f) w (σ ++ [ob]):=by
 have c : ∀ t k,t < σ.length → (g.nils σ.length f).tv t k = g.tv t k:=fun t k h => by
  show (if t = σ.length then f k else g.tv t k) = _
  rw [if_neg (by omega)]
 have H : Ext g w σ (g.nils σ.length f) w (σ ++ [ob]):={
  os:=rfl
  tape:=rfl
  output:=rfl
  size:=yd _
  keeps:=fun _ _ h => ⟨h,rfl⟩
  len:=by simp
  shape:=fun id l sz len h => by
   obtain ⟨es,a,_⟩:=zaM h;exact .inl ⟨by unfold shapeOf; rw [yb (zb a)]; exact h,rfl,fun _ arr t j => ⟨arr,j,rfl⟩⟩
  map:=fun id es h => ⟨rfl,es,by rw [yb (zb h)]; exact h⟩
  tok:=fun t k n h => by
   obtain ⟨sz,fr,a,i⟩:=zcR h;exact ⟨n,zdG (by rw [yb (zb a)]; exact a) i,yd _,fun _ => c t k (zb a)⟩
  tsz:=fun t sz h => by
   obtain ⟨fr,a⟩:=zeD h;exact zb9 (fr:=fr) (by rw [yb (zb a)]; exact a)
  ow:=fun _ _ => rfl
  new:=fun _ _ h _ _ => h
  frame:=fun _ _ _ => rfl }
 refine ⟨H,⟨R.nb,fun id o h => ?_⟩⟩
 by_cases b : id < σ.length
 ·rw [yb b] at h
  exact zcS H rfl (fun k => c id k b) (fun _ _ _ => ⟨rfl,rfl,fun _ h => h⟩) (R.ob id o h)
 ·have d : id = σ.length:=by
   have:=zb h;simp at this;omega
  subst d;simp at h;subst h;exact e H
theorem G.nils_tv (g : G) (t k : Nat) (f : Nat → Value) : (g.nils t f).tv t k = f k:=by
 show (if t = t then f k else _) = _
 rw [if_pos rfl]
theorem zr7 (R : Rel g w σ) (sz : Nat) (fr : List Nat) (f : Nat → Value) (d : ∀ k n,fr[k]? = some n → n = 0 ∧ ∃ a,f k = .slice a 0 0) :
  Ext g w σ (g.nils σ.length f) w (σ ++ [.tok sz fr]) ∧ Rel (g.nils σ.length f) w (σ ++ [.tok sz fr]) :=
 zwd R _ f fun _ => fun k n c => by
  obtain ⟨e,a,b⟩:=d k n c;exact .inl ⟨e,a,by rw [G.nils_tv]; exact b⟩
theorem ziQ : ∀ fresh : List (Nat × Nat),(tokens fresh).length = fresh.length
 | [] => rfl
 | _ :: js => by simp [tokens,ziQ js]
theorem ziJ : ∀ (fresh : List (Nat × Nat)) (t : Nat) (cs : List C),(zf8 t fresh cs).length = cs.length
 | [],_,_ => rfl
 | _ :: js,t,cs => by rw [zf8,ziJ js]; simp
theorem zma {cs : List C} {us : List Value} {j : Nat} {c : C} {u : Value} (h : zv g w σ cs us) (hu : us[j]? = some u) (k : zy g w σ c u) : zv g w σ (cs.set j c) us:=by
 have f:=zI h;refine zkK (by simpa using f) fun i x v b a => ?_;rw [List.getElem?_set] at b
 by_cases e : j = i
 ·subst e
  have d : j < cs.length:=by rw [← f]; exact zb hu
  simp [d] at b;subst b;rw [hu] at a;injection a with a;rw [← a];exact k
 ·rw [if_neg e] at b
  obtain ⟨v',l,m⟩:=zei h b;rw [l] at a;injection a with a;rw [← a];exact m
theorem zsi {N : zgd} : rep w N (.sl []) (.slice none 0 0):=by
 rw [rep];exact ⟨none,0,0,rfl,yd _,by simp only [zbO],.inl rfl⟩
theorem zoE {σ : zd} (R : Rel g w σ) (sz : Nat) : Ext g w σ (g.nils σ.length fun _ => undef) w (σ ++ [.cells 0 sz []]) ∧ Rel (g.nils σ.length fun _ => undef) w (σ ++ [.cells 0 sz []]) :=
 zwd R _ _ fun _ h => absurd rfl h
theorem zzA {σ : zd} {sz n q : Nat} (b : q < n) (g : G) : zy g w (σ ++ yp n (.cells 0 sz [])) (.own (σ.length + q) 0 0 0) (.slice none 0 0):=by
 rw [zy]
 have a : shapeOf (σ ++ yp n (.cells 0 sz [])) (σ.length + q) = some (0,sz,0):=by
  unfold shapeOf;rw [List.getElem?_append_right (by omega),show σ.length + q - σ.length = q by omega,List.getElem?_replicate,if_pos b];rfl
 exact ⟨0,sz,0,a,yd _,fun _ => ⟨none,0,rfl,yd _,fun _ => rfl,fun h => absurd rfl h⟩,_,_,rfl⟩
theorem zsz : ∀ (fresh : List (Nat × Nat)) {g : G} {σ : zd} {cs : List C} {a : List Value},Rel g w σ → zg8 a fresh = true → zv g w σ cs a →
  ∃ g',Ext g w σ g' w (σ ++ tokens fresh) ∧ Rel g' w (σ ++ tokens fresh) ∧ zv g' w (σ ++ tokens fresh) (zf8 σ.length fresh cs) a
 | [],g,σ,cs,a,R,_,h => ⟨g,by simpa [tokens] using Ext.refl g w σ,by simpa [tokens] using R,by simpa [tokens,zf8] using h⟩
 | j :: js,g,σ,cs,a,R,hf,h => by
   simp only [zg8,yl] at hf;obtain ⟨p,b⟩:=hf
   have o : a[j.1]? = some (.slice none 0 0):=by
    split at p
    ·assumption
    ·cases p
   by_cases c : 4096 ≤ j.2
   ·obtain ⟨H1,l⟩:=zoE R (j.2 - 4096)
    have f : zy (g.nils σ.length fun _ => undef) w (σ ++ [.cells 0 (j.2 - 4096) []]) (zEl σ.length j.2) (.slice none 0 0):=by
     rw [zEl,if_pos c];have:=zzA (σ:=σ) (sz:=j.2 - 4096) (n:=1) (q:=0) (w:=w) (by omega) (g.nils σ.length fun _ => undef);simpa using this
    obtain ⟨g',e,d,m⟩:=zsz js l b (zma (H1.zv _ _ h) o f);refine ⟨g',?_,?_,?_⟩
    ·have:=H1.trans e
     simpa [tokens,zCI,if_pos c] using this
    ·simpa [tokens,zCI,if_pos c] using d
    ·simpa [tokens,zCI,if_pos c,zf8] using m
   ·obtain ⟨H1,l⟩:=zr7 R j.2 [0] (fun _ => .slice none 0 0) (fun k n i => ⟨by
     cases k with
     | zero => simp at i; exact i.symm
     | succ k => simp at i,none,rfl⟩)
    have f : zy (g.nils σ.length fun _ => .slice none 0 0) w (σ ++ [.tok j.2 [0]]) (zEl σ.length j.2) (.slice none 0 0):=by
     rw [zEl,if_neg c,zy];refine ⟨zsi,0,zdG (sz:=j.2) (fr:=[0]) (by simp) (by simp),yd _,fun _ => ?_,j.2,zb9 (fr:=[0]) (by simp),by simp only [zbO]⟩
     show _ = if σ.length = σ.length then _ else _
     rw [if_pos rfl]
    obtain ⟨g',e,d,m⟩:=zsz js l b (zma (H1.zv _ _ h) o f);refine ⟨g',?_,?_,?_⟩
    ·have:=H1.trans e
     simpa [tokens,zCI,if_neg c] using this
    ·simpa [tokens,zCI,if_neg c] using d
    ·simpa [tokens,zCI,if_neg c,zf8] using m
theorem zgL (R : Rel g w σ) {sz : Nat} {es : List (List C)} {us : List Value} (t : TypeId) (e : us.length = es.length * sz) (a : zca g w σ us.toArray sz es) :
  Ext g w σ (g.own σ.length w.heap.size) (w.alloc (.cells us.toArray t)) (σ ++ [.cells 0 sz es]) ∧ Rel (g.own σ.length w.heap.size) (w.alloc (.cells us.toArray t)) (σ ++ [.cells 0 sz es]) :=
 ztK R (.cells 0 sz es) (.cells us.toArray t) fun H b d c _ => ⟨by rw [b]; exact d,by rw [b]; exact c,us.toArray,t,by rw [b]; exact zbd w _,by simp [e],H.zca a⟩
theorem zkq (σ : zd) (o : Ob) : (σ ++ [o])[σ.length]? = some o:=by simp
theorem ztC {sz : Nat} {es : List (List C)} (o : Obj) : zf (g.own σ.length w.heap.size) (w.alloc o) (σ ++ [.cells 0 sz es]) (.one (.ptr σ.length 0 0 0)) (.pointer (some ⟨w.heap.size,0,none⟩)):=by
 simp only [zf,zy];exact ⟨0,sz,es.length,zt (zkq σ _),yd _,fun _ => by simp [G.own],_,rfl⟩
theorem zmO {sz : Nat} {es : List (List C)} {us : List Value} (t : TypeId) (a : us.length = es.length * sz) :
  zf (g.own σ.length w.heap.size) (w.alloc (.cells us.toArray t)) (σ ++ [.cells 0 sz es]) (.one (.own σ.length 0 0 es.length)) (.slice (some ⟨w.heap.size,0,none⟩) es.length es.length):=by
 simp only [zf,zy];refine ⟨0,sz,es.length,zt (zkq σ _),yd _,fun _ => ⟨_,_,rfl,yd _,fun h => h,fun _ => ⟨by omega,fun _ => by simp [G.own],us.toArray,t,?_,by simp [a]⟩⟩,_,_,rfl⟩;simpa [G.own] using zbd w (.cells us.toArray t)
theorem zmY {cs : List C} {us : List Value} (h : zv g w σ cs us) (d : ∀ u ∈ us,u.oneCell' = true) : zca g w σ us.toArray cs.length [cs]:=fun i e a => by
 cases i with
 | succ i => simp at a
 | zero =>
   simp at a;subst a;refine ⟨rfl,fun j c f => ?_⟩;obtain ⟨u,b,k⟩:=zei h f;exact ⟨u,by simpa using b,k,d u (List.mem_of_getElem? b)⟩
theorem zz1 (R : Rel g w σ) {sz : Nat} {xs : List (List Fz)} {us : List Value} (t : TypeId) (f : Lay w g.N sz xs us) :
  ∃ g',Ext g w σ g' (w.alloc (.cells us.toArray t)) (σ ++ [.tok sz [xs.length]]) ∧ Rel g' (w.alloc (.cells us.toArray t)) (σ ++ [.tok sz [xs.length]]) ∧
    zf g' (w.alloc (.cells us.toArray t)) (σ ++ [.tok sz [xs.length]]) (.one (.ap σ.length 0 xs)) (.slice (some ⟨w.heap.size,0,none⟩) xs.length xs.length):=by
 let g' : G:={ g with tv:=fun c k => if c = σ.length then .slice (some ⟨w.heap.size,0,none⟩) xs.length xs.length else g.tv c k,ow:=zxW g.ow w.heap.size (.tk σ.length 0),N:=fun b o => g.N b o ∨ (b = w.heap.size ∧ o < xs.length * sz) }
 have q : ∀ b,b < w.heap.size → g'.ow b = g.ow b:=fun b l => zaH g.ow (k:=w.heap.size) (i:=b) _ (by omega);have x : ∀ b o,b < w.heap.size → (g'.N b o ↔ g.N b o):=fun b o l => ⟨fun h => h.elim id fun h => by omega,.inl⟩
 have m : ∀ c k,c < σ.length → g'.tv c k = g.tv c k:=fun c k h => by
  show (if c = σ.length then _ else g.tv c k) = _
  rw [if_neg (by omega)]
 have e : ∀ k,g'.tv σ.length k = .slice (some ⟨w.heap.size,0,none⟩) xs.length xs.length:=fun k => by
  show (if σ.length = σ.length then _ else _) = _
  rw [if_pos rfl]
 have H : Ext g w σ g' (w.alloc (.cells us.toArray t)) (σ ++ [.tok sz [xs.length]]) :=
  Ext.alloc R _ g' (fun _ _ => rfl) (fun c k n h => m c k (by obtain ⟨_,_,z,_⟩:=zcR h; exact zb z)) q x _
 have p:=zbd w (.cells us.toArray t);refine ⟨g',H,⟨fun b o h => ?_,fun id o h => ?_⟩,?_⟩
 ·rw [size_alloc]
  rcases h with h | h
  ·have:=R.nb b o h; omega
  ·omega
 ·by_cases d : id < σ.length
  ·rw [yb d] at h
   exact zcS H rfl (fun k => m id k d) (fun b l _ => ⟨heap_alloc_old w _ l,q b l,fun o => (x b o l).1⟩) (R.ob id o h)
  ·have s : id = σ.length:=by
    have:=zb h;simp at this;omega
   subst s;simp at h;subst h;intro k n u
   cases k with
   | succ k => simp at u
   | zero =>
     simp at u;subst u;rw [e];rcases Nat.eq_zero_or_pos xs.length with r | r
     ·exact .inl ⟨r,_,by rw [r]⟩
     ·refine .inr ⟨_,_,_,us.toArray,t,rfl,r,yd _,zgX _ _ _,p,by simp [f.1],fun A a => ?_⟩
      rcases a with a | a
      ·exact absurd (R.nb _ _ a) (Nat.lt_irrefl _)
      ·have:=a.2; omega
 ·simp only [zf,zy]
  refine ⟨zvO f.2.1 (yd _) (zlA f H.keeps fun j v y => ?_),xs.length,zdG (sz:=sz) (fr:=[xs.length]) (by simp) (by simp),yd _,fun _ => (e 0).symm,sz,zb9 (fr:=[xs.length]) (by simp),f.2.1⟩;have d:=zb y;rw [f.1] at d;refine ⟨.inr ⟨rfl,by omega⟩,?_⟩;rw [yt,zh1 p];simpa using y
theorem zCz (R : Rel g w σ) {sz : Nat} {xs : List (List Fz)} {us : List Value} (t : TypeId) (a : Lay w g.N sz xs us) :
  ∃ g',Ext g w σ g' (w.alloc (.cells us.toArray t)) σ ∧ Rel g' (w.alloc (.cells us.toArray t)) σ ∧
    zf g' (w.alloc (.cells us.toArray t)) σ (vsl xs) (.slice (some ⟨w.heap.size,0,none⟩) xs.length xs.length):=by
 obtain ⟨H,b⟩:=ztV R (.cells us.toArray t);refine ⟨_,H,b,?_⟩;simp only [vsl,zf,zy];refine zvO a.2.1 (yd _) (zlA a H.keeps fun j v c => ⟨.inr rfl,?_⟩);rw [yt,zh1 (zbd w _)];simpa using c
end
end Go.A

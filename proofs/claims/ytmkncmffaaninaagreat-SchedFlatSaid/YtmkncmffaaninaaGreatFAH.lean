/- A part of the proof of SchedFlat. Conditions: none. -/
import Derived.Test.YtmkncmffaaninaaGreatFAG
import Derived.Laws.BytesArg
import Derived.Laws.Strings
set_option linter.all false
open Option renaming map_eq_some_iff → ya,bind_eq_some_iff → yd
open List renaming getElem?_append_left → yb,eq_nil_of_length_eq_zero → yc,getElem?_append_right → yf,getElem?_map → yh,map_cons → yj,map_nil → yk
open Nat renaming add_sub_cancel → ye
open Array renaming getElem?_eq_some_iff → yg
open Bool renaming and_eq_true → yi
namespace Go.A
section
variable {g : G} {w : World} {σ : zd} {n : Nat}
theorem zm4 (R : Rel g w σ) {s : zgd} (M : ∀ b o,g.N b o → s b o) {id l lo n : Nat} (I : ∀ o,s (g.ρ id) o ∨ ¬ (∃ sz es,σ[id]? = some (.cells l sz es) ∧ es ≠ [])) {xs : List (List Fz)} {u : Value} (h : (σ[id]?).bind (Ob.frz l lo n) = some xs) (P : zf g w σ (.one (.own id l lo n)) u) : rep w s (.sl xs) u:=by
 rw [yd] at h;obtain ⟨ob,z,m⟩:=h;unfold Ob.frz at m;split at m
 ·rename_i D sz es
  split at m
  ·rename_i p
   subst p;obtain ⟨a,c,e1,e2,e3,e4⟩:=zgJ P z;obtain ⟨E,C⟩:=zfb m;simp only [rep]
   by_cases d : es = []
   ·subst d
    have:=e3 rfl;have U : n = 0:=(by omega);subst U;have r : xs = []:=yc (by rw [E]; simp);subst r;exact ⟨a,c,sz,e1,by simp,by simp only [zbO],.inl rfl⟩
   ·obtain ⟨f1,f2,arr,t,f3,f4⟩:=e4 fun h => d (yc h)
    obtain ⟨_,_,B,V,m1,m2,G⟩:=R.ob id _ z d;have y : xs.length = n:=by rw [E]; simp; omega
    have k : ∀ i e,((es.drop lo).take n)[i]? = some e → es[lo + i]? = some e:=fun i e f => by
     rw [List.getElem?_take] at f;split at f
     ·rwa [List.getElem?_drop] at f
     ·cases f
    refine ⟨a,c,sz,by rw [y]; exact e1,by omega,zeW fun e he => ?_,?_⟩
    ·obtain ⟨i,f⟩:=List.mem_iff_getElem?.1 he
     obtain ⟨q,v,A⟩:=C i e f;rw [(zfY A).1];exact (G _ q (k i q v)).1
    ·rcases Nat.eq_zero_or_pos n with K | K
     ·exact .inl (yc (by omega))
     ·refine .inr ⟨g.ρ id,lo * sz,f2 (by omega),zfS fun i e f => zij fun j x O => ?_⟩
      obtain ⟨q,v,A⟩:=C i e f;obtain ⟨cc,S,J⟩:=(zfY A).2 j x O;obtain ⟨H,Q,L,W⟩:=(G _ q (k i q v)).2 j cc S;refine ⟨H,(I _).resolve_right fun r => r ⟨sz,es,z,d⟩,?_,zcM (fun b o h => ⟨M b o h,rfl⟩) x H (zgM J L)⟩;rw [zh1 m1,show lo * sz + i * sz + j = (lo + i) * sz + j from by rw [Nat.add_mul]];exact Q
  ·cases m
 ·cases m
def G.inn (g : G) (lent : Bool) (w : World) : G:=⟨fun _ => 0,fun _ _ => undef,fun _ => .no,fun b o => g.N b o ∨ (lent = true ∧ b < w.heap.size)⟩
theorem zzy (R : Rel g w σ) (lent : Bool) : Rel (g.inn lent w) w []:=⟨fun b o h => h.elim (R.nb b o) fun h => h.2,fun id o h => by simp at h⟩
theorem zts (lent : Bool) : zhd w w g.N (g.inn lent w).N:=fun _ _ h => ⟨.inl h,rfl⟩
theorem znd {b : zgd} (H : zhd w w g.N b) {g' : G} {σ' : zd} (a : g'.N = b) : ∀ {cs : List C} {xs : List Fz} {us : List Value},zdR cs = some xs → zv g w σ cs us → zv g' w σ' (xs.map C.f) us
 | [],xs,us,h,hr => by
   simp only [zdR,Option.some.injEq] at h;subst h;simpa only [yk,zv] using hr
 | c :: cs,xs,us,h,hr => by
   simp only [zdR] at h;obtain ⟨y,z,d,i,rfl⟩:=zfJ h;simp only [zv] at hr;obtain ⟨v,vs,rfl,j,e⟩:=hr;simp only [yj,zv];exact ⟨v,vs,rfl,by simp only [zy]; rw [a]; exact zcM H y v (zgM d j),znd H a i e⟩
theorem zwH (R : Rel g w σ) {lent : Bool} {v v' : V} {u : Value} (h : zDD σ v = some v') (j : zuG v = true → lent = true) (c : zf g w σ v u) : zf (g.inn lent w) w [] v' u:=by
 unfold zDD at h;split at h
 ·rename_i id f lo n
  rw [ya] at h;obtain ⟨xs,h,rfl⟩:=h;have a:=j rfl;simp only [vsl,zf,zy];refine zm4 R (fun b o h => .inl h) (fun o => ?_) h c
  by_cases i : ∃ sz es,σ[id]? = some (.cells f sz es) ∧ es ≠ []
  ·obtain ⟨sz,es,k,m⟩:=i
   obtain ⟨_,_,arr,t,q,_⟩:=R.ob id _ k m;exact .inl (.inr ⟨a,(yg.1 q).1⟩)
  ·exact .inr i
 ·injection h with h
  subst h;simp only [zf,zy] at c ⊢;obtain ⟨p,cs,e,d,l⟩:=c;exact ⟨p,cs,e,by simpa only [zv] using d,by simpa only [zv] using l⟩
 ·rw [ya] at h
  obtain ⟨x,h,rfl⟩:=h;simp only [zf] at c;simp only [vf,zf,zy];exact zcM (zts lent) x u (zgM h c)
 ·rw [ya] at h
  obtain ⟨xs,h,rfl⟩:=h;simp only [zf] at c;obtain ⟨us,e,d⟩:=c;simp only [zAN,zf];exact ⟨us,e,znd (zts lent) rfl h d⟩
 ·cases h
theorem zlJ (R : Rel g w σ) {lent : Bool} : ∀ {vs a : List V} {us : List Value},zqj σ vs = some a → (vs.any zuG = true → lent = true) → zz g w σ vs us → zz (g.inn lent w) w [] a us
 | [],a,us,h,_,hv => by
   simp only [zqj,Option.some.injEq] at h;subst h;simpa only [zz] using hv
 | v :: vs,a,us,h,hl,hv => by
   simp only [zqj] at h;obtain ⟨y,z,b,d,rfl⟩:=zfJ h;simp only [zz] at hv ⊢;obtain ⟨x,xs,rfl,e,c⟩:=hv;simp only [List.any_cons,Bool.or_eq_true] at hl;exact ⟨x,xs,rfl,zwH R b (fun h => hl (.inl h)) e,zlJ R d (fun h => hl (.inr h)) c⟩
def Ow.shift (n : Nat) : Ow → Ow
 | .no => .no
 | .ob id => .ob (id + n)
 | .tk t k => .tk (t + n) k
def G.out (g : G) (w : World) (n : Nat) (keep : Prop) (g' : G) : G where
 ρ:=fun id => if id < n then g.ρ id else g'.ρ (id - n)
 tv:=fun t k => if t < n then g.tv t k else g'.tv (t - n) k
 ow:=fun b => if b < w.heap.size then g.ow b else (g'.ow b).shift n
 N:=fun b o => g.N b o ∨ (w.heap.size ≤ b ∧ keep ∧ g'.N b o)
section
variable {lent : Bool} {keep : Prop} {g' : G} {w' : World} {σ' : zd}
theorem out_ρ_old {id : Nat} (h : id < n) : (g.out w n keep g').ρ id = g.ρ id:=by simp [G.out,h]
theorem out_ρ_new {id : Nat} : (g.out w n keep g').ρ (id + n) = g'.ρ id:=by
 show (if id + n < n then _ else g'.ρ (id + n - n)) = _
 rw [if_neg (by omega),ye]
theorem zqM {t k : Nat} (h : t < n) : (g.out w n keep g').tv t k = g.tv t k:=by simp [G.out,h]
theorem zrs {t k : Nat} : (g.out w n keep g').tv (t + n) k = g'.tv t k:=by
 show (if t + n < n then _ else g'.tv (t + n - n) k) = _
 rw [if_neg (by omega),ye]
theorem zre {b : Nat} (h : b < w.heap.size) : (g.out w n keep g').ow b = g.ow b:=by simp [G.out,h]
theorem zm2 {b : Nat} (h : ¬ b < w.heap.size) : (g.out w n keep g').ow b = (g'.ow b).shift n:=by simp [G.out,h]
theorem zuS (R : Rel g w σ) (H : Ext (g.inn lent w) w [] g' w' σ') (os : List Ob) : Ext g w σ (g.out w σ.length keep g') w' (σ ++ os) where
 os:=H.os
 tape:=H.tape
 output:=H.output
 size:=H.size
 keeps:=fun b o h => ⟨.inl h,by
  unfold World.cell?
  rw [H.frame b (R.nb b o h) rfl]⟩
 len:=by simp
 shape:=fun id i sz len h => by
  obtain ⟨es,a,_⟩:=zaM h;have c:=zb a;refine .inl ⟨by unfold shapeOf; rw [yb c]; exact h,out_ρ_old c,fun _ arr t e => ⟨arr,?_,rfl⟩⟩;rw [H.frame _ (yg.1 e).1 rfl];exact e
 map:=fun id es h => ⟨out_ρ_old (zb h),es,by rw [yb (zb h)]; exact h⟩
 tok:=fun t k m h => by
  obtain ⟨sz,fr,a,f⟩:=zcR h;exact ⟨m,zdG (by rw [yb (zb a)]; exact a) f,Nat.le_refl _,fun _ => zqM (zb a)⟩
 tsz:=fun t sz h => by
  obtain ⟨fr,a⟩:=zeD h;exact zb9 (fr:=fr) (by rw [yb (zb a)]; exact a)
 ow:=fun b d => zre d
 new:=fun b o h d _ => h.elim id fun h => by omega
 frame:=fun b d _ => H.frame b d rfl
theorem zmD (e : keep) (a : lent = false) (H : Ext (g.inn lent w) w [] g' w' σ') : zhd w' w' g'.N (g.out w n keep g').N:=fun b o h => ⟨by
 by_cases d : b < w.heap.size
 ·have:=H.new b o h d rfl
  rcases this with c | c
  ·exact .inl c
  ·rw [a] at c; cases c.1
 ·exact .inr ⟨by omega,e,h⟩,rfl⟩
theorem zmp (os : List Ob) {i : Nat} {o : Ob} (h : σ'[i]? = some o) : (σ ++ σ'.map (Ob.shift σ.length))[i + σ.length]? = some (o.shift σ.length):=by
 rw [yf (by omega),ye,yh,h];rfl
theorem zpb {id a sz len : Nat} (h : shapeOf σ' id = some (a,sz,len)) : shapeOf (σ ++ σ'.map (Ob.shift σ.length)) (id + σ.length) = some (a,sz,len):=by
 obtain ⟨es,b,c⟩:=zaM h;rw [zt (zmp [] b)];simp [c]
theorem zBx {t k m : Nat} (h : zmP σ' t k = some m) : zmP (σ ++ σ'.map (Ob.shift σ.length)) (t + σ.length) k = some m:=by
 obtain ⟨sz,fr,a,b⟩:=zcR h;exact zdG (zmp [] a) b
theorem zyF {t sz : Nat} (h : zog σ' t = some sz) : zog (σ ++ σ'.map (Ob.shift σ.length)) (t + σ.length) = some sz:=by
 obtain ⟨fr,a⟩:=zeD h;exact zb9 (zmp [] a)
mutual
theorem zmS (l : keep) (d : lent = false) (H : Ext (g.inn lent w) w [] g' w' σ') : ∀ (c : C) (u : Value),zy g' w' σ' c u → zy (g.out w σ.length keep g') w' (σ ++ σ'.map (Ob.shift σ.length)) (c.shift σ.length) u
 | .f x,u,h => by
   simp only [C.shift,zy] at h ⊢;exact zcM (zmD l d H) x u h
 | .ap t k xs,u,h => by
   simp only [C.shift,zy] at h ⊢;obtain ⟨j,m,e,n,r,sz,p,s⟩:=h;exact ⟨zcM (zmD l d H) _ u j,m,zBx e,n,by rw [zrs]; exact r,sz,zyF p,s⟩
 | .ptr id ver i off,u,h => by
   simp only [C.shift,zy] at h ⊢;obtain ⟨v0,sz,len,j,e⟩:=h;exact ⟨v0,sz,len,zpb j,by rw [out_ρ_new]; exact e⟩
 | .fp cs off,u,h => by
   simp only [C.shift,zy] at h ⊢;obtain ⟨b,o,j,e⟩:=h;exact ⟨b,o,j,zff (zmD l d H) cs b o e⟩
 | .own id ver lo m,u,h => by
   simp only [C.shift,zy] at h ⊢;obtain ⟨v0,sz,len,j,e⟩:=h;exact ⟨v0,sz,len,zpb j,by rw [out_ρ_new]; exact e⟩
 | .map id,u,h => by
   simp only [C.shift,zy] at h ⊢;obtain ⟨⟨es,j⟩,e⟩:=h;exact ⟨⟨_,zmp [] j⟩,by rw [out_ρ_new]; exact e⟩
 | .fn f a b,u,h => by
   simp only [C.shift,zy] at h ⊢;obtain ⟨q,cs,j,e,n⟩:=h;exact ⟨q,cs,j,ziL l d H a _ e,ziL l d H b _ n⟩
 | .un,_,_ => by simp only [C.shift,zy]
theorem ziL (b : keep) (a : lent = false) (H : Ext (g.inn lent w) w [] g' w' σ') : ∀ (cs : List C) (us : List Value),zv g' w' σ' cs us → zv (g.out w σ.length keep g') w' (σ ++ σ'.map (Ob.shift σ.length)) (C.shifts σ.length cs) us
 | [],us,h => by simpa only [C.shifts,zv] using h
 | c :: cs,us,h => by
   simp only [C.shifts,zv] at h ⊢;obtain ⟨v,vs,d,f,e⟩:=h;exact ⟨v,vs,d,zmS b a H c v f,ziL b a H cs vs e⟩
end
mutual
theorem zmT (e : keep) (a : lent = false) (H : Ext (g.inn lent w) w [] g' w' σ') : ∀ (c : V) (u : Value),zf g' w' σ' c u → zf (g.out w σ.length keep g') w' (σ ++ σ'.map (Ob.shift σ.length)) (c.shift σ.length) u
 | .one c,u,h => by
   simp only [V.shift,zf] at h ⊢;exact zmS e a H c u h
 | .agg cs,u,h => by
   simp only [V.shift,zf] at h ⊢;obtain ⟨us,b,d⟩:=h;exact ⟨us,b,ziL e a H cs _ d⟩
 | .tup vs,u,h => by
   simp only [V.shift,zf] at h ⊢;obtain ⟨us,b,d⟩:=h;exact ⟨us,b,zpC e a H vs _ d⟩
theorem zpC (b : keep) (a : lent = false) (H : Ext (g.inn lent w) w [] g' w' σ') : ∀ (vs : List V) (us : List Value),zz g' w' σ' vs us → zz (g.out w σ.length keep g') w' (σ ++ σ'.map (Ob.shift σ.length)) (V.shifts σ.length vs) us
 | [],us,h => by simpa only [V.shifts,zz] using h
 | c :: cs,us,h => by
   simp only [V.shifts,zz] at h ⊢;obtain ⟨v,vs,d,f,e⟩:=h;exact ⟨v,vs,d,zmT b a H c v f,zpC b a H cs vs e⟩
end
theorem zqy {n : Nat} : ∀ {cs : List C} {j : Nat} {c : C},(C.shifts n cs)[j]? = some c → ∃ c',cs[j]? = some c' ∧ c = c'.shift n
 | [],j,c,h => by simp [C.shifts] at h
 | x :: cs,j,c,h => by
   cases j with
   | zero => simp [C.shifts] at h; exact ⟨x,by simp,h.symm⟩
   | succ j => simpa using zqy (cs:=cs) (by simpa [C.shifts] using h)
theorem zmL {n : Nat} : ∀ {cs : List C},(C.shifts n cs).length = cs.length
 | [] => rfl
 | x :: cs => by simp [C.shifts,zmL (cs:=cs)]
theorem zrh (b : keep) (a : lent = false) (H : Ext (g.inn lent w) w [] g' w' σ') : ∀ {es : List (Int × V)} {zbn : List MapEntry},zqc g' w' σ' es zbn → zqc (g.out w σ.length keep g') w' (σ ++ σ'.map (Ob.shift σ.length)) (es.map fun e => (e.1,e.2.shift σ.length)) zbn
 | [],_,h => h
 | x :: xs,_,h => by
   obtain ⟨e,rest,i,d,c,f⟩:=h;exact ⟨e,rest,i,d,zmT b a H _ _ c,zrh b a H f⟩
theorem zpy (R : Rel g w σ) (H : Ext (g.inn lent w) w [] g' w' σ') (d : Rel g' w' σ') (os : List Ob) {id : Nat} {o : Ob} (a : σ[id]? = some o) : zAO (g.out w σ.length keep g') w' (σ ++ os) id o :=
 zcS (zuS R H os) (out_ρ_old (zb a)) (fun _ => zqM (zb a)) (fun b c _ => ⟨H.frame b c rfl,zre c,fun o h => h.elim (fun h => h) fun h => by omega⟩) (R.ob id o a)
theorem zqK (R : Rel g w σ) (H : Ext (g.inn lent w) w [] g' w' σ') (a : Rel g' w' σ') : ∀ b o,(g.out w σ.length keep g').N b o → b < w'.heap.size:=fun b o h =>
 h.elim (fun h => Nat.lt_of_lt_of_le (R.nb b o h) H.size) fun h => a.nb b o h.2.2
theorem zuM (R : Rel g w σ) (H : Ext (g.inn lent w) w [] g' w' []) (a : Rel g' w' []) : Rel (g.out w σ.length keep g') w' σ :=
 ⟨zqK R H a,fun id o b => by simpa using zpy (keep:=keep) R H a [] b⟩
theorem zC3 (R : Rel g w σ) (I : keep) (f : lent = false) (H : Ext (g.inn lent w) w [] g' w' σ') (D : Rel g' w' σ') : Rel (g.out w σ.length keep g') w' (σ ++ σ'.map (Ob.shift σ.length)):=by
 refine ⟨zqK R H D,fun id o B => ?_⟩
 by_cases E : id < σ.length
 ·rw [yb E] at B
  exact zpy R H D _ B
 ·rw [yf (by omega),yh,ya] at B
  obtain ⟨C,a,rfl⟩:=B;obtain ⟨j,rfl⟩ : ∃ j,id = j + σ.length:=⟨id - σ.length,by omega⟩;rw [ye] at a;have p:=D.ob j C a;have l : ∀ b,g'.ow b ≠ .no → ¬ b < w.heap.size:=fun b q d => q (H.ow b d)
  have v : ∀ b,¬ b < w.heap.size → (∀ o,¬ g'.N b o) → ∀ o,¬ (g.out w σ.length keep g').N b o:=fun b d O o h => by
   rcases h with h | h
   ·exact d (R.nb b o h)
   ·exact O o h.2.2
  cases C with
  | cells ver sz es =>
    intro q;have y : es ≠ []:=fun h => q (by rw [h]; rfl);obtain ⟨n,s,arr,t,z,r,A⟩:=p y;have d:=l _ (by rw [n]; simp);rw [out_ρ_new];refine ⟨by rw [zm2 d,n]; rfl,v _ d s,arr,t,z,by simpa using r,fun i e x => ?_⟩;rw [yh,ya] at x;obtain ⟨K,x,rfl⟩:=x;refine ⟨by rw [zmL]; exact (A i K x).1,fun j c L => ?_⟩;obtain ⟨J,G,rfl⟩:=zqy L;obtain ⟨u,P,Q,S⟩:=(A i K x).2 j J G;exact ⟨u,P,zmS I f H J u Q,S⟩
  | mp es =>
    obtain ⟨n,s,zbn,clock,z,r⟩:=p;have d:=l _ (by rw [n]; simp)
    show _ ∧ _
    rw [out_ρ_new];exact ⟨by rw [zm2 d,n]; rfl,v _ d s,zbn,clock,z,zos r (fun e => (e.1,e.2.shift σ.length)) (fun _ => rfl) fun es' _ h => zrh I f H h⟩
  | tok sz fr =>
    intro k m hm;rw [zrs];rcases p k m hm with h | ⟨b,o,c,arr,t,n,s,z,r,A,U,M⟩
    ·exact .inl h
    ·have d:=l _ (by rw [r]; simp)
     refine .inr ⟨b,o,c,arr,t,n,s,z,by rw [zm2 d,r]; rfl,A,U,fun C a => ?_⟩;rcases a with a | a
     ·exact absurd (R.nb _ _ a) d
     ·exact M C a.2.2
mutual
theorem ztX {d : World} {σ2 : zd} {l n : G} (e : zhd d d l.N n.N) : ∀ (c : C) (u : Value),zy l d [] c u → zy n d σ2 c u
 | .f x,u,h => by simp only [zy] at h ⊢; exact zcM e x u h
 | .ap t k xs,u,h => by have:=znx _ u h; simp [C.lt] at this
 | .ptr id ver i off,u,h => by have:=znx _ u h; simp [C.lt] at this
 | .fp cs off,u,h => by
   simp only [zy] at h ⊢;obtain ⟨b,o,g,j⟩:=h;exact ⟨b,o,g,zff e cs b o j⟩
 | .own id ver lo m,u,h => by have:=znx _ u h; simp [C.lt] at this
 | .map id,u,h => by have:=znx _ u h; simp [C.lt] at this
 | .fn f a b,u,h => by
   simp only [zy] at h ⊢;obtain ⟨q,cs,g,j,p⟩:=h;exact ⟨q,cs,g,zky e a _ j,zky e b _ p⟩
 | .un,_,_ => by simp only [zy]
theorem zky {a : World} {σ2 : zd} {b d : G} (e : zhd a a b.N d.N) : ∀ (cs : List C) (us : List Value),zv b a [] cs us → zv d a σ2 cs us
 | [],us,h => by simpa only [zv] using h
 | c :: cs,us,h => by
   simp only [zv] at h ⊢;obtain ⟨v,vs,f,i,g⟩:=h;exact ⟨v,vs,f,ztX e c v i,zky e cs vs g⟩
end
mutual
theorem zuf {a : World} {σ2 : zd} {f g : G} (e : zhd a a f.N g.N) : ∀ (c : V) (u : Value),zf f a [] c u → zf g a σ2 c u
 | .one c,u,h => by simp only [zf] at h ⊢; exact ztX e c u h
 | .agg cs,u,h => by
   simp only [zf] at h ⊢;obtain ⟨us,b,d⟩:=h;exact ⟨us,b,zky e cs _ d⟩
 | .tup vs,u,h => by
   simp only [zf] at h ⊢;obtain ⟨us,b,d⟩:=h;exact ⟨us,b,zrc e vs _ d⟩
theorem zrc {a : World} {σ2 : zd} {b d : G} (e : zhd a a b.N d.N) : ∀ (vs : List V) (us : List Value),zz b a [] vs us → zz d a σ2 vs us
 | [],us,h => by simpa only [zz] using h
 | c :: cs,us,h => by
   simp only [zz] at h ⊢;obtain ⟨v,vs,f,i,g⟩:=h;exact ⟨v,vs,f,zuf e c v i,zrc e cs vs g⟩
end
theorem zoY {i d : World} {σ1 σ2 : zd} {g k : G} : ∀ {cs : List C} {us : List Value},(cs.all fun c => match c with
  | .f (.lit _) => true
  | _ => false) = true → zv g i σ1 cs us → zv k d σ2 cs us
 | [],us,_,h => by simpa only [zv] using h
 | c :: cs,us,hp,h => by
   simp only [List.all_cons,yi] at hp;simp only [zv] at h ⊢;obtain ⟨v,vs,b,j,e⟩:=h;refine ⟨v,vs,b,?_,zoY hp.2 e⟩;have a:=hp.1;split at a
   ·simpa only [zy,rep] using j
   ·cases a
mutual
theorem zqQ {g d : World} {σ1 σ2 : zd} {e i : G} : ∀ (c : V) (u : Value),c.plain = true → zf e g σ1 c u → zf i d σ2 c u
 | .one c,u,hp,h => by
   cases c with
   | f x =>
     cases x with
     | lit v => simpa only [zf,zy,rep] using h
     | sl xs => simp [V.plain] at hp
   | _ => simp [V.plain] at hp
 | .agg cs,u,hp,h => by
   simp only [V.plain] at hp;simp only [zf] at h ⊢;obtain ⟨us,a,b⟩:=h;exact ⟨us,a,zoY hp b⟩
 | .tup vs,u,hp,h => by
   simp only [V.plain] at hp;simp only [zf] at h ⊢;obtain ⟨us,a,b⟩:=h;exact ⟨us,a,zpg vs _ hp b⟩
theorem zpg {f b : World} {σ1 σ2 : zd} {e i : G} : ∀ (vs : List V) (us : List Value),V.plains vs = true → zz e f σ1 vs us → zz i b σ2 vs us
 | [],us,_,h => by simpa only [zz] using h
 | c :: cs,us,hp,h => by
   simp only [V.plains,yi] at hp;simp only [zz] at h ⊢;obtain ⟨v,vs,a,g,d⟩:=h;exact ⟨v,vs,a,zqQ c v hp.1 g,zpg cs vs hp.2 d⟩
end
end
end
def Enters (P : Program) (f : Nat) : Prop := ∃ fn c, P.funcs[f]? = some fn ∧ (fn.name == "runtime.NumGoroutine") = false ∧ fn.body = some c
def zhg (P : Program) (C : zae) : Prop:=∀ (f : Nat) (args : List V) (σ : zd) (v : V) (σ' : zd),C f args σ = some (v,σ') →
 Enters P f ∧ ∀ (g : G) (w : World) (us : List Value),Rel g w σ → zz g w σ args us → Calls P f us.toArray w fun e w' => ∃ u g',e = .returned u ∧ zf g' w' σ' v u ∧ Rel g' w' σ' ∧ Ext g w σ g' w' σ'
section
variable {P : Program} {κ : List Tmp} {loc : List (Option Tmp)} {nt : Nat} {g : G} {w : World} {r r' : R} {a : Act} {o : Go.Oper} {d : D} {next : Act → World → Prop} {Q : Exit → Act → World → Prop}
theorem zj7 {σ : zd} : ∀ {vs a : List V} {us us' : List Value},zz g w σ vs us → zz g w σ a us' → zz g w σ (vs ++ a) (us ++ us')
 | [],a,us,us',h,h' => by
   simp only [zz] at h;subst h;simpa using h'
 | v :: vs,a,us,us',h,h' => by
   simp only [zz,List.cons_append] at h ⊢;obtain ⟨x,xs,rfl,b,c⟩:=h;exact ⟨x,xs ++ us',rfl,b,zj7 c h'⟩
theorem zpf {σ : zd} : ∀ {cs : List C} {us : List Value},zv g w σ cs us → zz g w σ (cs.map V.one) us
 | [],us,h => by simpa only [zv,zz,yk] using h
 | c :: cs,us,h => by
   simp only [zv] at h;obtain ⟨v,vs,rfl,a,b⟩:=h;simp only [yj,zz];exact ⟨v,vs,rfl,by simp only [zf]; exact a,zpf b⟩
theorem zti {f : Nat} (h : Enters P f) (args : Array Value) : (callFunc f args).run P w = .ok (.enter f args) w:=by
 obtain ⟨fn,c,h1,h2,h3⟩:=h
 have h2' : ¬ fn.name = "runtime.NumGoroutine" := by simpa using h2
 simp [callFunc,h1,h2',h3]
theorem znw {ct : Go.Call} {c : Operand} (g : o.op = .call ct) (b : ct.callee = .value c) {f : Nat} {d cs : Array Value} (e : a.eval c = .func (.func f) d cs) (he : Enters P f) :
  (execOp a.eval o).run P w = .ok (.enter f (d ++ ct.args.map a.eval ++ cs)) w:=by
 unfold execOp;simp only [g,resolve,b,e,Deferred.ofValue,invoke,Sem.run_bind,Sem.run_pure,Result.andThen_ok,zti he]
theorem zr0 {f : Nat} {args : Array Value} (h : (execOp a.eval o).run P w = .ok (.enter f args) w) {R : Ending → World → Prop} (b : Calls P f args w R) (k : ∀ e w',R e w' → ∃ u,e = .returned u ∧ next (a.put o.dst u) w') : o.wp P a w next Q:=by
 unfold Oper.wp;rw [h,Oper.upon_enter];refine Calls.mono b fun e w' he => ?_;obtain ⟨u,rfl,c⟩:=k e w' he;exact c
theorem zxy {Y : zae} (S : zhg P Y) (p : Rel g w r.st) (L : Low r.base r.lim r.st) (F : Fr κ loc nt g w r a) {ct : Go.Call} {U : Operand} {m : Mode} {W : X} {xs : List X} (I : o.op = .call ct) (n : ct.callee = .value U) (hd : okD κ nt o.dst d = true)
  (K : okX κ loc U W = true) (O : zx6 κ loc ct.args.toList xs = true) {r1 : R} (h : zoe Y r d m (r.gets xs) (r.get W) = some r1) (k : zpE κ (za5 o.dst d :: loc) nt g w r r1 (a.put o.dst) next) : o.wp P a w next Q:=by
 have E:=F.get K;have q:=F.gets O;unfold zoe at h;split at h
 ·rename_i f first j J
  rw [J] at E;simp only [zf,zy] at E;obtain ⟨M,cs,ef,h1,Z⟩:=E;have i : zz g w r.st (first.map V.one ++ (r.gets xs ++ j.map V.one)) (M.toList ++ (ct.args.toList.map a.eval ++ cs.toList)):=zj7 (zpf h1) (zj7 q (zpf Z))
  have c : (M ++ ct.args.map a.eval ++ cs) = (M.toList ++ (ct.args.toList.map a.eval ++ cs.toList)).toArray:=by
   apply Array.ext';simp
  cases m with
  | op =>
    simp only [ya] at h;obtain ⟨⟨v,σ'⟩,l,rfl⟩:=h;obtain ⟨he,x⟩:=S f _ _ v σ' l;refine zr0 (znw I n ef he) (R:=_) (by rw [c]; exact x g w _ p i) fun e w' y => ?_;obtain ⟨u,g',rfl,t,A,H⟩:=y;refine ⟨u,rfl,?_⟩;have hL : Low r.base r.lim σ':=⟨trivial⟩;have hst : ({ r with st:=σ' } : R).st = σ':=rfl;have hF : Fr κ loc nt g' w' { r with st:=σ' } a:=F.ext (r':={ r with st:=σ' }) H rfl rfl;refine k g' w' _ ?_ ?_ ?_ (hF.put hd fun _ => t) <;> rw [zvR,zeZ]
    ·exact H
    ·exact A
    ·exact hL
  | cl =>
    simp only at h;rw [yd] at h;obtain ⟨⟨v,σ'⟩,l,h⟩:=h;rw [yd] at l;obtain ⟨aS,s,l⟩:=l;generalize b : (first.map V.one ++ (r.gets xs ++ j.map V.one)).any zuG = lent at h;unfold zvD at h;split at h
    ·rename_i hc
     obtain ⟨G,N⟩:=hc;have hσ : σ' = []:=yc G;subst hσ;injection h with h;subst h;obtain ⟨he,x⟩:=S f aS [] v [] l;refine zr0 (znw I n ef he) (R:=_) (by rw [c]; exact x (g.inn lent w) w _ (zzy p lent) (zlJ p s (fun h => by rw [← b]; exact h) i)) fun e w' y => ?_;obtain ⟨u,g',rfl,t,A,H⟩:=y;refine ⟨u,rfl,?_⟩;have B : Ext g w r.st (g.out w r.st.length (lent = false) g') w' r.st:=(by simpa using zuS (keep:=lent = false) p H []);have D:=zuM (keep:=lent = false) p H A;have hF : Fr κ loc nt (g.out w r.st.length (lent = false) g') w' r a:=F.ext B rfl rfl;refine k _ w' _ ?_ ?_ ?_ (hF.put hd fun _ => ?_)
     ·rw [zeZ]; exact B
     ·rw [zeZ]; exact D
     ·rw [zeZ]; exact L
     ·rcases N with C | C
      ·exact zuf (zmD C C H) v u t
      ·exact zqQ v u C t
    ·cases h
  | ck =>
    simp only at h;split at h
    ·cases h
    ·rename_i z
     have b : (first.map V.one ++ (r.gets xs ++ j.map V.one)).any zuG = false:=(by simpa using z);rw [ya] at h;obtain ⟨⟨v,σ'⟩,l,rfl⟩:=h;rw [yd] at l;obtain ⟨aS,s,l⟩:=l;obtain ⟨he,x⟩:=S f aS [] v σ' l;refine zr0 (znw I n ef he) (R:=_) (by rw [c]; exact x (g.inn false w) w _ (zzy p false) (zlJ p s (fun h => by rw [b] at h; cases h) i)) fun e w' y => ?_;obtain ⟨u,g',rfl,t,A,H⟩:=y;refine ⟨u,rfl,?_⟩;have B:=zuS (keep:=True) p H (σ'.map (Ob.shift r.st.length));have D:=zC3 (keep:=True) p trivial rfl H A;have hF : Fr κ loc nt (g.out w r.st.length True g') w' { r with st:=r.st ++ σ'.map (Ob.shift r.st.length) } a:=F.ext (r':={ r with st:=r.st ++ σ'.map (Ob.shift r.st.length) }) B rfl rfl;refine k _ w' _ ?_ ?_ ?_ (hF.put hd fun _ => zmT trivial rfl H v u t) <;> rw [zv1,zeZ]
     ·exact B
     ·exact D
     ·exact L.append _
 ·cases h
end
end Go.A
namespace Go.A
section
variable {P : Program} {κ : List Tmp} {loc : List (Option Tmp)} {nt : Nat} {g : G} {w : World} {r r' : R} {a : Act} {o : Go.Oper} {d : D} {next : Act → World → Prop} {Q : Exit → Act → World → Prop}
end
def G.give (g : G) (b : Nat) : G:={ g with N:=fun b' o => g.N b' o ∨ b' = b }
section
variable {P : Program} {κ : List Tmp} {loc : List (Option Tmp)} {nt : Nat} {g : G} {w : World} {r r' : R} {a : Act} {o : Go.Oper} {d : D} {next : Act → World → Prop} {Q : Exit → Act → World → Prop} {σ : zd}
end
section
variable {P : Program} {κ : List Tmp} {loc : List (Option Tmp)} {nt : Nat} {g : G} {w : World} {r r' : R} {a : Act} {o : Go.Oper} {d : D} {next : Act → World → Prop} {Q : Exit → Act → World → Prop} {σ : zd}
end
end Go.A

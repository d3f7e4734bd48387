/- A part of the proof of SchedTells. Conditions: none. -/
import Derived.Test.YtmkncmffaaninaaGreatTAG
import Derived.Laws.BytesArg
import Derived.Laws.Strings
set_option linter.all false
open Option renaming map_eq_some_iff → ya,bind_eq_some_iff → yd
open List renaming getElem?_append_left → yb,eq_nil_of_length_eq_zero → yc,getElem?_append_right → yf,getElem?_map → yh,map_cons → yj,map_nil → yk
open Nat renaming add_sub_cancel → ye
open Array renaming getElem?_eq_some_iff → yg
open Bool renaming and_eq_true → yi
namespace Go.A
section
variable {g : G} {w : World} {σ : zd} {n : Nat}
theorem zod (R : Rel g w σ) {r : zgU} (M : ∀ b o,g.N b o → r b o) {id l lo n : Nat} (O : ∀ o,r (g.ρ id) o ∨ ¬ (∃ sz es,σ[id]? = some (.cells l sz es) ∧ es ≠ [])) {xs : List (List Fz)} {u : Value} (h : (σ[id]?).bind (Ob.frz l lo n) = some xs) (K : zf g w σ (.one (.own id l lo n)) u) : rep w r (.sl xs) u:=by
 rw [yd] at h;obtain ⟨ob,s,m⟩:=h;unfold Ob.frz at m;split at m
 ·rename_i G sz es
  split at m
  ·rename_i q
   subst q;obtain ⟨a,c,e1,e2,e3,e4⟩:=zhl K s;obtain ⟨C,D⟩:=zfY m;simp only [rep]
   by_cases d : es = []
   ·subst d
    have:=e3 rfl;have P : n = 0:=(by omega);subst P;have A : xs = []:=yc (by rw [C]; simp);subst A;exact ⟨a,c,sz,e1,by simp,by simp only [zb9],.inl rfl⟩
   ·obtain ⟨f1,f2,arr,t,f3,f4⟩:=e4 fun h => d (yc h)
    obtain ⟨_,_,H,V,m1,m2,E⟩:=R.ob id _ s d;have z : xs.length = n:=by rw [C]; simp; omega
    have f : ∀ i e,((es.drop lo).take n)[i]? = some e → es[lo + i]? = some e:=fun i e k => by
     rw [List.getElem?_take] at k;split at k
     ·rwa [List.getElem?_drop] at k
     ·cases k
    refine ⟨a,c,sz,by rw [z]; exact e1,by omega,zfK fun e he => ?_,?_⟩
    ·obtain ⟨i,k⟩:=List.mem_iff_getElem?.1 he
     obtain ⟨p,y,v⟩:=D i e k;rw [(zgA v).1];exact (E _ p (f i p y)).1
    ·rcases Nat.eq_zero_or_pos n with S | S
     ·exact .inl (yc (by omega))
     ·refine .inr ⟨g.ρ id,lo * sz,f2 (by omega),zgG fun i e k => ziW fun j x J => ?_⟩
      obtain ⟨p,y,v⟩:=D i e k;obtain ⟨cc,I,U⟩:=(zgA v).2 j x J;obtain ⟨B,Q,L,W⟩:=(E _ p (f i p y)).2 j cc I;refine ⟨B,(O _).resolve_right fun A => A ⟨sz,es,s,d⟩,?_,zdb (fun b o h => ⟨M b o h,rfl⟩) x B (zhE U L)⟩;rw [ziQ m1,show lo * sz + i * sz + j = (lo + i) * sz + j from by rw [Nat.add_mul]];exact Q
  ·cases m
 ·cases m
def G.inn (g : G) (lent : Bool) (w : World) : G:=⟨fun _ => 0,fun _ _ => undef,fun _ => .no,fun b o => g.N b o ∨ (lent = true ∧ b < w.heap.size)⟩
theorem zzo (R : Rel g w σ) (lent : Bool) : Rel (g.inn lent w) w []:=⟨fun b o h => h.elim (R.nb b o) fun h => h.2,fun id o h => by simp at h⟩
theorem zvs (lent : Bool) : zhS w w g.N (g.inn lent w).N:=fun _ _ h => ⟨.inl h,rfl⟩
theorem zok {b : zgU} (H : zhS w w g.N b) {g' : G} {σ' : zd} (a : g'.N = b) : ∀ {cs : List C} {xs : List Fz} {us : List Value},zeq cs = some xs → zw g w σ cs us → zw g' w σ' (xs.map C.f) us
 | [],xs,us,h,hr => by
   simp only [zeq,Option.some.injEq] at h;subst h;simpa only [yk,zw] using hr
 | c :: cs,xs,us,h,hr => by
   simp only [zeq] at h;obtain ⟨y,z,i,e,rfl⟩:=zgv h;simp only [zw] at hr;obtain ⟨v,vs,rfl,d,j⟩:=hr;simp only [yj,zw];exact ⟨v,vs,rfl,by simp only [zz]; rw [a]; exact zdb H y v (zhE i d),zok H a e j⟩
theorem zx5 (R : Rel g w σ) {lent : Bool} {v v' : V} {u : Value} (h : zEF σ v = some v') (j : zv3 v = true → lent = true) (a : zf g w σ v u) : zf (g.inn lent w) w [] v' u:=by
 unfold zEF at h;split at h
 ·rename_i id f lo n
  rw [ya] at h;obtain ⟨xs,h,rfl⟩:=h;have c:=j rfl;simp only [vsl,zf,zz];refine zod R (fun b o h => .inl h) (fun o => ?_) h a
  by_cases i : ∃ sz es,σ[id]? = some (.cells f sz es) ∧ es ≠ []
  ·obtain ⟨sz,es,l,k⟩:=i
   obtain ⟨_,_,arr,t,m,_⟩:=R.ob id _ l k;exact .inl (.inr ⟨c,(yg.1 m).1⟩)
  ·exact .inr i
 ·injection h with h
  subst h;simp only [zf,zz] at a ⊢;obtain ⟨fs,cs,d,e,p⟩:=a;exact ⟨fs,cs,d,by simpa only [zw] using e,by simpa only [zw] using p⟩
 ·rw [ya] at h
  obtain ⟨x,h,rfl⟩:=h;simp only [zf] at a;simp only [vf,zf,zz];exact zdb (zvs lent) x u (zhE h a)
 ·rw [ya] at h
  obtain ⟨xs,h,rfl⟩:=h;simp only [zf] at a;obtain ⟨us,d,e⟩:=a;simp only [zCa,zf];exact ⟨us,d,zok (zvs lent) rfl h e⟩
 ·cases h
theorem zmy (R : Rel g w σ) {lent : Bool} : ∀ {vs a : List V} {us : List Value},zrs σ vs = some a → (vs.any zv3 = true → lent = true) → zA g w σ vs us → zA (g.inn lent w) w [] a us
 | [],a,us,h,_,hv => by
   simp only [zrs,Option.some.injEq] at h;subst h;simpa only [zA] using hv
 | v :: vs,a,us,h,hl,hv => by
   simp only [zrs] at h;obtain ⟨y,z,d,c,rfl⟩:=zgv h;simp only [zA] at hv ⊢;obtain ⟨x,xs,rfl,b,e⟩:=hv;simp only [List.any_cons,Bool.or_eq_true] at hl;exact ⟨x,xs,rfl,zx5 R d (fun h => hl (.inl h)) b,zmy R c (fun h => hl (.inr h)) e⟩
def Ow.shift (n : Nat) : Ow → Ow
 | .no => .no
 | .ob id => .ob (id + n)
 | .tk t k => .tk (t + n) k
def G.out (g : G) (w : World) (n : Nat) (keep : Prop) (g' : G) : G where
 ρ:=fun id => if id < n then g.ρ id else g'.ρ (id - n)
 tv:=fun t k => if t < n then g.tv t k else g'.tv (t - n) k
 ow:=fun b => if b < w.heap.size then g.ow b else (g'.ow b).shift n
 N:=fun b o => g.N b o ∨ (w.heap.size ≤ b ∧ keep ∧ g'.N b o)
section
variable {lent : Bool} {keep : Prop} {g' : G} {w' : World} {σ' : zd}
theorem out_ρ_old {id : Nat} (h : id < n) : (g.out w n keep g').ρ id = g.ρ id:=by simp [G.out,h]
theorem out_ρ_new {id : Nat} : (g.out w n keep g').ρ (id + n) = g'.ρ id:=by
 show (if id + n < n then _ else g'.ρ (id + n - n)) = _
 rw [if_neg (by omega),ye]
theorem zr3 {t k : Nat} (h : t < n) : (g.out w n keep g').tv t k = g.tv t k:=by simp [G.out,h]
theorem zsm {t k : Nat} : (g.out w n keep g').tv (t + n) k = g'.tv t k:=by
 show (if t + n < n then _ else g'.tv (t + n - n) k) = _
 rw [if_neg (by omega),ye]
theorem zrO {b : Nat} (h : b < w.heap.size) : (g.out w n keep g').ow b = g.ow b:=by simp [G.out,h]
theorem zn7 {b : Nat} (h : ¬ b < w.heap.size) : (g.out w n keep g').ow b = (g'.ow b).shift n:=by simp [G.out,h]
theorem zwc (R : Rel g w σ) (H : Ext (g.inn lent w) w [] g' w' σ') (os : List Ob) : Ext g w σ (g.out w σ.length keep g') w' (σ ++ os) where
 os:=H.os
 tape:=H.tape
 output:=H.output
 size:=H.size
 keeps:=fun b o h => ⟨.inl h,by
  unfold World.cell?
  rw [H.frame b (R.nb b o h) rfl]⟩
 len:=by simp
 shape:=fun id i sz len h => by
  obtain ⟨es,a,_⟩:=za2 h;have c:=zb a;refine .inl ⟨by unfold shapeOf; rw [yb c]; exact h,out_ρ_old c,fun _ arr t e => ⟨arr,?_,rfl⟩⟩;rw [H.frame _ (yg.1 e).1 rfl];exact e
 map:=fun id es h => ⟨out_ρ_old (zb h),es,by rw [yb (zb h)]; exact h⟩
 tok:=fun t k m h => by
  obtain ⟨sz,fr,a,f⟩:=zdi h;exact ⟨m,zd3 (by rw [yb (zb a)]; exact a) f,Nat.le_refl _,fun _ => zr3 (zb a)⟩
 tsz:=fun t sz h => by
  obtain ⟨fr,a⟩:=zfc h;exact zct (fr:=fr) (by rw [yb (zb a)]; exact a)
 ow:=fun b d => zrO d
 new:=fun b o h d _ => h.elim id fun h => by omega
 frame:=fun b d _ => H.frame b d rfl
theorem zmR (d : keep) (a : lent = false) (H : Ext (g.inn lent w) w [] g' w' σ') : zhS w' w' g'.N (g.out w n keep g').N:=fun b o h => ⟨by
 by_cases e : b < w.heap.size
 ·have:=H.new b o h e rfl
  rcases this with c | c
  ·exact .inl c
  ·rw [a] at c; cases c.1
 ·exact .inr ⟨by omega,d,h⟩,rfl⟩
theorem zmS (os : List Ob) {i : Nat} {o : Ob} (h : σ'[i]? = some o) : (σ ++ σ'.map (Ob.shift σ.length))[i + σ.length]? = some (o.shift σ.length):=by
 rw [yf (by omega),ye,yh,h];rfl
theorem zqP {id a sz len : Nat} (h : shapeOf σ' id = some (a,sz,len)) : shapeOf (σ ++ σ'.map (Ob.shift σ.length)) (id + σ.length) = some (a,sz,len):=by
 obtain ⟨es,c,b⟩:=za2 h;rw [zu (zmS [] c)];simp [b]
theorem zC7 {t k m : Nat} (h : znR σ' t k = some m) : znR (σ ++ σ'.map (Ob.shift σ.length)) (t + σ.length) k = some m:=by
 obtain ⟨sz,fr,b,a⟩:=zdi h;exact zd3 (zmS [] b) a
theorem zzM {t sz : Nat} (h : zpe σ' t = some sz) : zpe (σ ++ σ'.map (Ob.shift σ.length)) (t + σ.length) = some sz:=by
 obtain ⟨fr,a⟩:=zfc h;exact zct (zmS [] a)
mutual
theorem znY (l : keep) (d : lent = false) (H : Ext (g.inn lent w) w [] g' w' σ') : ∀ (c : C) (u : Value),zz g' w' σ' c u → zz (g.out w σ.length keep g') w' (σ ++ σ'.map (Ob.shift σ.length)) (c.shift σ.length) u
 | .f x,u,h => by
   simp only [C.shift,zz] at h ⊢;exact zdb (zmR l d H) x u h
 | .ap t k xs,u,h => by
   simp only [C.shift,zz] at h ⊢;obtain ⟨e,m,j,n,q,sz,p,r⟩:=h;exact ⟨zdb (zmR l d H) _ u e,m,zC7 j,n,by rw [zsm]; exact q,sz,zzM p,r⟩
 | .ptr id ver i off,u,h => by
   simp only [C.shift,zz] at h ⊢;obtain ⟨v0,sz,len,e,j⟩:=h;exact ⟨v0,sz,len,zqP e,by rw [out_ρ_new]; exact j⟩
 | .fp cs off,u,h => by
   simp only [C.shift,zz] at h ⊢;obtain ⟨b,o,e,j⟩:=h;exact ⟨b,o,e,zfT (zmR l d H) cs b o j⟩
 | .own id ver lo m,u,h => by
   simp only [C.shift,zz] at h ⊢;obtain ⟨v0,sz,len,e,j⟩:=h;exact ⟨v0,sz,len,zqP e,by rw [out_ρ_new]; exact j⟩
 | .map id,u,h => by
   simp only [C.shift,zz] at h ⊢;obtain ⟨⟨es,e⟩,j⟩:=h;exact ⟨⟨_,zmS [] e⟩,by rw [out_ρ_new]; exact j⟩
 | .fn f a b,u,h => by
   simp only [C.shift,zz] at h ⊢;obtain ⟨fs,cs,e,j,n⟩:=h;exact ⟨fs,cs,e,zjV l d H a _ j,zjV l d H b _ n⟩
 | .un,_,_ => by simp only [C.shift,zz]
theorem zjV (b : keep) (a : lent = false) (H : Ext (g.inn lent w) w [] g' w' σ') : ∀ (cs : List C) (us : List Value),zw g' w' σ' cs us → zw (g.out w σ.length keep g') w' (σ ++ σ'.map (Ob.shift σ.length)) (C.shifts σ.length cs) us
 | [],us,h => by simpa only [C.shifts,zw] using h
 | c :: cs,us,h => by
   simp only [C.shifts,zw] at h ⊢;obtain ⟨v,vs,f,d,e⟩:=h;exact ⟨v,vs,f,znY b a H c v d,zjV b a H cs vs e⟩
end
mutual
theorem zou (b : keep) (a : lent = false) (H : Ext (g.inn lent w) w [] g' w' σ') : ∀ (c : V) (u : Value),zf g' w' σ' c u → zf (g.out w σ.length keep g') w' (σ ++ σ'.map (Ob.shift σ.length)) (c.shift σ.length) u
 | .one c,u,h => by
   simp only [V.shift,zf] at h ⊢;exact znY b a H c u h
 | .agg cs,u,h => by
   simp only [V.shift,zf] at h ⊢;obtain ⟨us,e,d⟩:=h;exact ⟨us,e,zjV b a H cs _ d⟩
 | .tup vs,u,h => by
   simp only [V.shift,zf] at h ⊢;obtain ⟨us,e,d⟩:=h;exact ⟨us,e,zpV b a H vs _ d⟩
theorem zpV (b : keep) (a : lent = false) (H : Ext (g.inn lent w) w [] g' w' σ') : ∀ (vs : List V) (us : List Value),zA g' w' σ' vs us → zA (g.out w σ.length keep g') w' (σ ++ σ'.map (Ob.shift σ.length)) (V.shifts σ.length vs) us
 | [],us,h => by simpa only [V.shifts,zA] using h
 | c :: cs,us,h => by
   simp only [V.shifts,zA] at h ⊢;obtain ⟨v,vs,f,d,e⟩:=h;exact ⟨v,vs,f,zou b a H c v d,zpV b a H cs vs e⟩
end
theorem zsf {n : Nat} : ∀ {cs : List C} {j : Nat} {c : C},(C.shifts n cs)[j]? = some c → ∃ c',cs[j]? = some c' ∧ c = c'.shift n
 | [],j,c,h => by simp [C.shifts] at h
 | x :: cs,j,c,h => by
   cases j with
   | zero => simp [C.shifts] at h; exact ⟨x,by simp,h.symm⟩
   | succ j => simpa using zsf (cs:=cs) (by simpa [C.shifts] using h)
theorem znu {n : Nat} : ∀ {cs : List C},(C.shifts n cs).length = cs.length
 | [] => rfl
 | x :: cs => by simp [C.shifts,znu (cs:=cs)]
theorem zrU (b : keep) (a : lent = false) (H : Ext (g.inn lent w) w [] g' w' σ') : ∀ {es : List (Int × V)} {zbC : List MapEntry},zrw g' w' σ' es zbC → zrw (g.out w σ.length keep g') w' (σ ++ σ'.map (Ob.shift σ.length)) (es.map fun e => (e.1,e.2.shift σ.length)) zbC
 | [],_,h => h
 | x :: xs,_,h => by
   obtain ⟨e,rest,c,f,d,i⟩:=h;exact ⟨e,rest,c,f,zou b a H _ _ d,zrU b a H i⟩
theorem zqO (R : Rel g w σ) (H : Ext (g.inn lent w) w [] g' w' σ') (d : Rel g' w' σ') (os : List Ob) {id : Nat} {o : Ob} (a : σ[id]? = some o) : zCe (g.out w σ.length keep g') w' (σ ++ os) id o :=
 zdq (zwc R H os) (out_ρ_old (zb a)) (fun _ => zr3 (zb a)) (fun b c _ => ⟨H.frame b c rfl,zrO c,fun o h => h.elim (fun h => h) fun h => by omega⟩) (R.ob id o a)
theorem zse (R : Rel g w σ) (H : Ext (g.inn lent w) w [] g' w' σ') (a : Rel g' w' σ') : ∀ b o,(g.out w σ.length keep g').N b o → b < w'.heap.size:=fun b o h =>
 h.elim (fun h => Nat.lt_of_lt_of_le (R.nb b o h) H.size) fun h => a.nb b o h.2.2
theorem zwl (R : Rel g w σ) (H : Ext (g.inn lent w) w [] g' w' []) (a : Rel g' w' []) : Rel (g.out w σ.length keep g') w' σ :=
 ⟨zse R H a,fun id o b => by simpa using zqO (keep:=keep) R H a [] b⟩
theorem zFw (R : Rel g w σ) (I : keep) (l : lent = false) (H : Ext (g.inn lent w) w [] g' w' σ') (G : Rel g' w' σ') : Rel (g.out w σ.length keep g') w' (σ ++ σ'.map (Ob.shift σ.length)):=by
 refine ⟨zse R H G,fun id o A => ?_⟩
 by_cases D : id < σ.length
 ·rw [yb D] at A
  exact zqO R H G _ A
 ·rw [yf (by omega),yh,ya] at A
  obtain ⟨C,a,rfl⟩:=A;obtain ⟨j,rfl⟩ : ∃ j,id = j + σ.length:=⟨id - σ.length,by omega⟩;rw [ye] at a;have q:=G.ob j C a;have f : ∀ b,g'.ow b ≠ .no → ¬ b < w.heap.size:=fun b p d => p (H.ow b d)
  have v : ∀ b,¬ b < w.heap.size → (∀ o,¬ g'.N b o) → ∀ o,¬ (g.out w σ.length keep g').N b o:=fun b d Q o h => by
   rcases h with h | h
   ·exact d (R.nb b o h)
   ·exact Q o h.2.2
  cases C with
  | cells ver sz es =>
    intro p;have s : es ≠ []:=fun h => p (by rw [h]; rfl);obtain ⟨n,y,arr,t,x,r,B⟩:=q s;have d:=f _ (by rw [n]; simp);rw [out_ρ_new];refine ⟨by rw [zn7 d,n]; rfl,v _ d y,arr,t,x,by simpa using r,fun i e z => ?_⟩;rw [yh,ya] at z;obtain ⟨J,z,rfl⟩:=z;refine ⟨by rw [znu]; exact (B i J z).1,fun j c L => ?_⟩;obtain ⟨K,E,rfl⟩:=zsf L;obtain ⟨u,O,M,P⟩:=(B i J z).2 j K E;exact ⟨u,O,znY I l H K u M,P⟩
  | mp es =>
    obtain ⟨n,y,zbC,clock,x,r⟩:=q;have d:=f _ (by rw [n]; simp)
    show _ ∧ _
    rw [out_ρ_new];exact ⟨by rw [zn7 d,n]; rfl,v _ d y,zbC,clock,x,zpo r (fun e => (e.1,e.2.shift σ.length)) (fun _ => rfl) fun es' _ h => zrU I l H h⟩
  | tok sz fr =>
    intro k m hm;rw [zsm];rcases q k m hm with h | ⟨b,o,c,arr,t,n,y,x,r,B,U,S⟩
    ·exact .inl h
    ·have d:=f _ (by rw [r]; simp)
     refine .inr ⟨b,o,c,arr,t,n,y,x,by rw [zn7 d,r]; rfl,B,U,fun C a => ?_⟩;rcases a with a | a
     ·exact absurd (R.nb _ _ a) d
     ·exact S C a.2.2
mutual
theorem zt4 {e : World} {σ2 : zd} {l n : G} (d : zhS e e l.N n.N) : ∀ (c : C) (u : Value),zz l e [] c u → zz n e σ2 c u
 | .f x,u,h => by simp only [zz] at h ⊢; exact zdb d x u h
 | .ap t k xs,u,h => by have:=zoi _ u h; simp [C.lt] at this
 | .ptr id ver i off,u,h => by have:=zoi _ u h; simp [C.lt] at this
 | .fp cs off,u,h => by
   simp only [zz] at h ⊢;obtain ⟨b,o,j,g⟩:=h;exact ⟨b,o,j,zfT d cs b o g⟩
 | .own id ver lo m,u,h => by have:=zoi _ u h; simp [C.lt] at this
 | .map id,u,h => by have:=zoi _ u h; simp [C.lt] at this
 | .fn f a b,u,h => by
   simp only [zz] at h ⊢;obtain ⟨fs,cs,j,g,p⟩:=h;exact ⟨fs,cs,j,zln d a _ g,zln d b _ p⟩
 | .un,_,_ => by simp only [zz]
theorem zln {a : World} {σ2 : zd} {d e : G} (b : zhS a a d.N e.N) : ∀ (cs : List C) (us : List Value),zw d a [] cs us → zw e a σ2 cs us
 | [],us,h => by simpa only [zw] using h
 | c :: cs,us,h => by
   simp only [zw] at h ⊢;obtain ⟨v,vs,i,f,g⟩:=h;exact ⟨v,vs,i,zt4 b c v f,zln b cs vs g⟩
end
mutual
theorem zt5 {a : World} {σ2 : zd} {f g : G} (b : zhS a a f.N g.N) : ∀ (c : V) (u : Value),zf f a [] c u → zf g a σ2 c u
 | .one c,u,h => by simp only [zf] at h ⊢; exact zt4 b c u h
 | .agg cs,u,h => by
   simp only [zf] at h ⊢;obtain ⟨us,e,d⟩:=h;exact ⟨us,e,zln b cs _ d⟩
 | .tup vs,u,h => by
   simp only [zf] at h ⊢;obtain ⟨us,e,d⟩:=h;exact ⟨us,e,zsk b vs _ d⟩
theorem zsk {a : World} {σ2 : zd} {d e : G} (b : zhS a a d.N e.N) : ∀ (vs : List V) (us : List Value),zA d a [] vs us → zA e a σ2 vs us
 | [],us,h => by simpa only [zA] using h
 | c :: cs,us,h => by
   simp only [zA] at h ⊢;obtain ⟨v,vs,i,f,g⟩:=h;exact ⟨v,vs,i,zt5 b c v f,zsk b cs vs g⟩
end
theorem zqm {b i : World} {σ1 σ2 : zd} {g j : G} : ∀ {cs : List C} {us : List Value},(cs.all fun c => match c with
  | .f (.lit _) => true
  | _ => false) = true → zw g b σ1 cs us → zw j i σ2 cs us
 | [],us,_,h => by simpa only [zw] using h
 | c :: cs,us,hp,h => by
   simp only [List.all_cons,yi] at hp;simp only [zw] at h ⊢;obtain ⟨v,vs,k,d,e⟩:=h;refine ⟨v,vs,k,?_,zqm hp.2 e⟩;have a:=hp.1;split at a
   ·simpa only [zz,rep] using d
   ·cases a
mutual
theorem zsn {d g : World} {σ1 σ2 : zd} {e i : G} : ∀ (c : V) (u : Value),c.plain = true → zf e d σ1 c u → zf i g σ2 c u
 | .one c,u,hp,h => by
   cases c with
   | f x =>
     cases x with
     | lit v => simpa only [zf,zz,rep] using h
     | sl xs => simp [V.plain] at hp
   | _ => simp [V.plain] at hp
 | .agg cs,u,hp,h => by
   simp only [V.plain] at hp;simp only [zf] at h ⊢;obtain ⟨us,b,a⟩:=h;exact ⟨us,b,zqm hp a⟩
 | .tup vs,u,hp,h => by
   simp only [V.plain] at hp;simp only [zf] at h ⊢;obtain ⟨us,b,a⟩:=h;exact ⟨us,b,zq4 vs _ hp a⟩
theorem zq4 {a f : World} {σ1 σ2 : zd} {e g : G} : ∀ (vs : List V) (us : List Value),V.plains vs = true → zA e a σ1 vs us → zA g f σ2 vs us
 | [],us,_,h => by simpa only [zA] using h
 | c :: cs,us,hp,h => by
   simp only [V.plains,yi] at hp;simp only [zA] at h ⊢;obtain ⟨v,vs,i,b,d⟩:=h;exact ⟨v,vs,i,zsn c v hp.1 b,zq4 cs vs hp.2 d⟩
end
end
end
def Enters (P : Program) (f : Nat) : Prop := ∃ fn c, P.funcs[f]? = some fn ∧ (fn.name == "runtime.NumGoroutine") = false ∧ fn.body = some c
def zh3 (P : Program) (C : zai) : Prop:=∀ (f : Nat) (args : List V) (σ : zd) (v : V) (σ' : zd),C f args σ = some (v,σ') →
 Enters P f ∧ ∀ (g : G) (w : World) (us : List Value),Rel g w σ → zA g w σ args us → Calls P f us.toArray w fun e w' => ∃ u g',e = .returned u ∧ zf g' w' σ' v u ∧ Rel g' w' σ' ∧ Ext g w σ g' w' σ'
section
variable {P : Program} {κ : List Tmp} {loc : List (Option Tmp)} {nt : Nat} {g : G} {w : World} {r r' : R} {a : Act} {o : Go.Oper} {d : D} {next : Act → World → Prop} {Q : Exit → Act → World → Prop}
theorem zk3 {σ : zd} : ∀ {vs a : List V} {us us' : List Value},zA g w σ vs us → zA g w σ a us' → zA g w σ (vs ++ a) (us ++ us')
 | [],a,us,us',h,h' => by
   simp only [zA] at h;subst h;simpa using h'
 | v :: vs,a,us,us',h,h' => by
   simp only [zA,List.cons_append] at h ⊢;obtain ⟨x,xs,rfl,c,b⟩:=h;exact ⟨x,xs ++ us',rfl,c,zk3 b h'⟩
theorem zqD {σ : zd} : ∀ {cs : List C} {us : List Value},zw g w σ cs us → zA g w σ (cs.map V.one) us
 | [],us,h => by simpa only [zw,zA,yk] using h
 | c :: cs,us,h => by
   simp only [zw] at h;obtain ⟨v,vs,rfl,b,a⟩:=h;simp only [yj,zA];exact ⟨v,vs,rfl,by simp only [zf]; exact b,zqD a⟩
theorem zvg {f : Nat} (h : Enters P f) (args : Array Value) : (callFunc f args).run P w = .ok (.enter f args) w:=by
 obtain ⟨fn,c,h1,h2,h3⟩:=h
 have h2' : ¬ fn.name = "runtime.NumGoroutine" := by simpa using h2
 simp [callFunc,h1,h2',h3]
theorem zot {ct : Go.Call} {fv : Operand} (d : o.op = .call ct) (b : ct.callee = .value fv) {f : Nat} {fs cs : Array Value} (c : a.eval fv = .func (.func f) fs cs) (he : Enters P f) :
  (execOp a.eval o).run P w = .ok (.enter f (fs ++ ct.args.map a.eval ++ cs)) w:=by
 unfold execOp;simp only [d,resolve,b,c,Deferred.ofValue,invoke,Sem.run_bind,Sem.run_pure,Result.andThen_ok,zvg he]
theorem ztc {f : Nat} {args : Array Value} (h : (execOp a.eval o).run P w = .ok (.enter f args) w) {R : Ending → World → Prop} (c : Calls P f args w R) (k : ∀ e w',R e w' → ∃ u,e = .returned u ∧ next (a.put o.dst u) w') : o.wp P a w next Q:=by
 unfold Oper.wp;rw [h,Oper.upon_enter];refine Calls.mono c fun e w' he => ?_;obtain ⟨u,rfl,b⟩:=k e w' he;exact b
theorem zxV {O : zai} (S : zh3 P O) (p : Rel g w r.st) (L : Low r.base r.lim r.st) (F : Fr κ loc nt g w r a) {ct : Go.Call} {fv : Operand} {m : Mode} {U : X} {xs : List X} (D : o.op = .call ct) (j : ct.callee = .value fv) (hd : okD κ nt o.dst d = true)
  (E : okX κ loc fv U = true) (G : zzp κ loc ct.args.toList xs = true) {r1 : R} (h : zph O r d m (r.gets xs) (r.get U) = some r1) (k : zpJ κ (zbg o.dst d :: loc) nt g w r r1 (a.put o.dst) next) : o.wp P a w next Q:=by
 have J:=F.get E;have q:=F.gets G;unfold zph at h;split at h
 ·rename_i f first i N
  rw [N] at J;simp only [zf,zz] at J;obtain ⟨fs,cs,ef,Y,h2⟩:=J;have l : zA g w r.st (first.map V.one ++ (r.gets xs ++ i.map V.one)) (fs.toList ++ (ct.args.toList.map a.eval ++ cs.toList)):=zk3 (zqD Y) (zk3 q (zqD h2))
  have c : (fs ++ ct.args.map a.eval ++ cs) = (fs.toList ++ (ct.args.toList.map a.eval ++ cs.toList)).toArray:=by
   apply Array.ext';simp
  cases m with
  | op =>
    simp only [ya] at h;obtain ⟨⟨v,σ'⟩,n,rfl⟩:=h;obtain ⟨he,A⟩:=S f _ _ v σ' n;refine ztc (zot D j ef he) (R:=_) (by rw [c]; exact A g w _ p l) fun e w' z => ?_;obtain ⟨u,g',rfl,t,B,H⟩:=z;refine ⟨u,rfl,?_⟩;have Z : Low r.base r.lim σ':=⟨trivial⟩;have hst : ({ r with st:=σ' } : R).st = σ':=rfl;have hF : Fr κ loc nt g' w' { r with st:=σ' } a:=F.ext (r':={ r with st:=σ' }) H rfl rfl;refine k g' w' _ ?_ ?_ ?_ (hF.put hd fun _ => t) <;> rw [zw6,zfH]
    ·exact H
    ·exact B
    ·exact Z
  | cl =>
    simp only at h;rw [yd] at h;obtain ⟨⟨v,σ'⟩,n,h⟩:=h;rw [yd] at n;obtain ⟨aS,s,n⟩:=n;generalize b : (first.map V.one ++ (r.gets xs ++ i.map V.one)).any zv3 = lent at h;unfold zxm at h;split at h
    ·rename_i W
     obtain ⟨I,K⟩:=W;have hσ : σ' = []:=yc I;subst hσ;injection h with h;subst h;obtain ⟨he,A⟩:=S f aS [] v [] n;refine ztc (zot D j ef he) (R:=_) (by rw [c]; exact A (g.inn lent w) w _ (zzo p lent) (zmy p s (fun h => by rw [← b]; exact h) l)) fun e w' z => ?_;obtain ⟨u,g',rfl,t,B,H⟩:=z;refine ⟨u,rfl,?_⟩;have x : Ext g w r.st (g.out w r.st.length (lent = false) g') w' r.st:=(by simpa using zwc (keep:=lent = false) p H []);have M:=zwl (keep:=lent = false) p H B;have hF : Fr κ loc nt (g.out w r.st.length (lent = false) g') w' r a:=F.ext x rfl rfl;refine k _ w' _ ?_ ?_ ?_ (hF.put hd fun _ => ?_)
     ·rw [zfH]; exact x
     ·rw [zfH]; exact M
     ·rw [zfH]; exact L
     ·rcases K with C | C
      ·exact zt5 (zmR C C H) v u t
      ·exact zsn v u C t
    ·cases h
  | ck =>
    simp only at h;split at h
    ·cases h
    ·rename_i y
     have b : (first.map V.one ++ (r.gets xs ++ i.map V.one)).any zv3 = false:=(by simpa using y);rw [ya] at h;obtain ⟨⟨v,σ'⟩,n,rfl⟩:=h;rw [yd] at n;obtain ⟨aS,s,n⟩:=n;obtain ⟨he,A⟩:=S f aS [] v σ' n;refine ztc (zot D j ef he) (R:=_) (by rw [c]; exact A (g.inn false w) w _ (zzo p false) (zmy p s (fun h => by rw [b] at h; cases h) l)) fun e w' z => ?_;obtain ⟨u,g',rfl,t,B,H⟩:=z;refine ⟨u,rfl,?_⟩;have x:=zwc (keep:=True) p H (σ'.map (Ob.shift r.st.length));have M:=zFw (keep:=True) p trivial rfl H B;have hF : Fr κ loc nt (g.out w r.st.length True g') w' { r with st:=r.st ++ σ'.map (Ob.shift r.st.length) } a:=F.ext (r':={ r with st:=r.st ++ σ'.map (Ob.shift r.st.length) }) x rfl rfl;refine k _ w' _ ?_ ?_ ?_ (hF.put hd fun _ => zou trivial rfl H v u t) <;> rw [zxD,zfH]
     ·exact x
     ·exact M
     ·exact L.append _
 ·cases h
end
end Go.A
namespace Go.A
section
variable {P : Program} {κ : List Tmp} {loc : List (Option Tmp)} {nt : Nat} {g : G} {w : World} {r r' : R} {a : Act} {o : Go.Oper} {d : D} {next : Act → World → Prop} {Q : Exit → Act → World → Prop}
end
def G.give (g : G) (b : Nat) : G:={ g with N:=fun b' o => g.N b' o ∨ b' = b }
section
variable {P : Program} {κ : List Tmp} {loc : List (Option Tmp)} {nt : Nat} {g : G} {w : World} {r r' : R} {a : Act} {o : Go.Oper} {d : D} {next : Act → World → Prop} {Q : Exit → Act → World → Prop} {σ : zd}
theorem zAc (l : Rel g w r.st) (L : Low r.base r.lim r.st) (F : Fr κ loc nt g w r a) {t : TypeId} {x : Operand} {sz : Nat} (f : o.op = .store t x (.const (.slice none 0 0))) (hd : okD κ nt o.dst d = true) (b : d = .no) (y : zjM P t = some 1)
  {e : V} (p : zf g w r.st e (a.eval x)) {r1 : R} (h : zG8 r sz e = some r1)
  (k : zpJ κ (zbg o.dst d :: loc) nt g w r (r1.put d vun) (a.put o.dst) next) : o.wp P a w next Q:=by
 obtain ⟨H,z⟩:=zqG l sz [0] (fun _ => .slice none 0 0) (fun k n c => ⟨by
  cases k with
  | zero => simp at c; exact c.symm
  | succ k => simp at c,none,rfl⟩)
 refine zw4 (r:=r.alloc (.tok sz [0])) (vv:=.one (.ap r.st.length 0 [])) z (L.append _) (F.ext H rfl rfl) f hd b y (by decide) (H.zf _ _ p) ?_ h fun i v u j s m q => k i v u (H.trans j) s m q;simp only [zf];exact zxq (sz:=sz) [0] (by simp) rfl
end
section
variable {P : Program} {κ : List Tmp} {loc : List (Option Tmp)} {nt : Nat} {g : G} {w : World} {r r' : R} {a : Act} {o : Go.Oper} {d : D} {next : Act → World → Prop} {Q : Exit → Act → World → Prop} {σ : zd}
end
end Go.A

/- A part of the proof of AffineFinds. Conditions: none. -/
import Derived.Test.YtmkncmffaaninaaGreatXAG
import Derived.Laws.BytesArg
import Derived.Laws.Strings
set_option linter.all false
open Bool renaming and_eq_true → ya
open Option renaming map_eq_some_iff → yb,bind_eq_some_iff → ye,map_some → yk
open List renaming getElem?_append_left → yc,eq_nil_of_length_eq_zero → yd,getElem?_append_right → yg,getElem?_map → yi,map_cons → yj,map_nil → yl
open Nat renaming add_sub_cancel → yf
open Array renaming getElem?_eq_some_iff → yh
namespace Go.A
section
variable {g : G} {w : World} {σ : zd} {n : Nat}
theorem zoI (R : Rel g w σ) {y : zgY} (L : ∀ b o,g.N b o → y b o) {id l lo n : Nat} (O : ∀ o,y (g.ρ id) o ∨ ¬ (∃ sz es,σ[id]? = some (.cells l sz es) ∧ es ≠ [])) {xs : List (List Fz)} {u : Value} (h : (σ[id]?).bind (Ob.frz l lo n) = some xs) (K : zh g w σ (.one (.own id l lo n)) u) : rep w y (.sl xs) u:=by
 rw [ye] at h;obtain ⟨ob,v,m⟩:=h;unfold Ob.frz at m;split at m
 ·rename_i D sz es
  split at m
  ·rename_i q
   subst q;obtain ⟨a,c,e1,e2,e3,e4⟩:=zhp K v;obtain ⟨C,B⟩:=zfB m;simp only [rep]
   by_cases d : es = []
   ·subst d
    have:=e3 rfl;have P : n = 0:=(by omega);subst P;have A : xs = []:=yd (by rw [C]; simp);subst A;exact ⟨a,c,sz,e1,by simp,by simp only [zcs],.inl rfl⟩
   ·obtain ⟨f1,f2,arr,t,f3,f4⟩:=e4 fun h => d (yd h)
    obtain ⟨_,_,G,W,m1,m2,H⟩:=R.ob id _ v d;have r : xs.length = n:=by rw [C]; simp; omega
    have f : ∀ i e,((es.drop lo).take n)[i]? = some e → es[lo + i]? = some e:=fun i e k => by
     rw [List.getElem?_take] at k;split at k
     ·rwa [List.getElem?_drop] at k
     ·cases k
    refine ⟨a,c,sz,by rw [r]; exact e1,by omega,zfs fun e he => ?_,?_⟩
    ·obtain ⟨i,k⟩:=List.mem_iff_getElem?.1 he
     obtain ⟨p,z,s⟩:=B i e k;rw [(zgp s).1];exact (H _ p (f i p z)).1
    ·rcases Nat.eq_zero_or_pos n with U | U
     ·exact .inl (yd (by omega))
     ·refine .inr ⟨g.ρ id,lo * sz,f2 (by omega),zgw fun i e k => zi7 fun j x M => ?_⟩
      obtain ⟨p,z,s⟩:=B i e k;obtain ⟨cc,I,J⟩:=(zgp s).2 j x M;obtain ⟨E,S,Q,V⟩:=(H _ p (f i p z)).2 j cc I;refine ⟨E,(O _).resolve_right fun A => A ⟨sz,es,v,d⟩,?_,zc8 (fun b o h => ⟨L b o h,rfl⟩) x E (zhy J Q)⟩;rw [ziJ m1,show lo * sz + i * sz + j = (lo + i) * sz + j from by rw [Nat.add_mul]];exact S
  ·cases m
 ·cases m
def G.inn (g : G) (lent : Bool) (w : World) : G:=⟨fun _ => 0,fun _ _ => undef,fun _ => .no,fun b o => g.N b o ∨ (lent = true ∧ b < w.heap.size)⟩
theorem zBk (R : Rel g w σ) (lent : Bool) : Rel (g.inn lent w) w []:=⟨fun b o h => h.elim (R.nb b o) fun h => h.2,fun id o h => by simp at h⟩
theorem zup (lent : Bool) : zhV w w g.N (g.inn lent w).N:=fun _ _ h => ⟨.inl h,rfl⟩
theorem zoC {b : zgY} (H : zhV w w g.N b) {g' : G} {σ' : zd} (a : g'.N = b) : ∀ {cs : List C} {xs : List Fz} {us : List Value},zfR cs = some xs → zA g w σ cs us → zA g' w σ' (xs.map C.f) us
 | [],xs,us,h,hr => by
   simp only [zfR,Option.some.injEq] at h;subst h;simpa only [yl,zA] using hr
 | c :: cs,xs,us,h,hr => by
   simp only [zfR] at h;obtain ⟨y,z,i,j,rfl⟩:=zgo h;simp only [zA] at hr;obtain ⟨v,vs,rfl,e,d⟩:=hr;simp only [yj,zA];exact ⟨v,vs,rfl,by simp only [zF]; rw [a]; exact zc8 H y v (zhy i e),zoC H a j d⟩
theorem zyN (R : Rel g w σ) {lent : Bool} {v v' : V} {u : Value} (h : zGV σ v = some v') (m : zwy v = true → lent = true) (a : zh g w σ v u) : zh (g.inn lent w) w [] v' u:=by
 unfold zGV at h;split at h
 ·rename_i id d lo n
  rw [yb] at h;obtain ⟨xs,h,rfl⟩:=h;have c:=m rfl;simp only [vsl,zh,zF];refine zoI R (fun b o h => .inl h) (fun o => ?_) h a
  by_cases i : ∃ sz es,σ[id]? = some (.cells d sz es) ∧ es ≠ []
  ·obtain ⟨sz,es,p,l⟩:=i
   obtain ⟨_,_,arr,t,k,_⟩:=R.ob id _ p l;exact .inl (.inr ⟨c,(yh.1 k).1⟩)
  ·exact .inr i
 ·injection h with h
  subst h;simp only [zh,zF] at a ⊢;obtain ⟨fs,cs,e,f,j⟩:=a;exact ⟨fs,cs,e,by simpa only [zA] using f,by simpa only [zA] using j⟩
 ·rw [yb] at h
  obtain ⟨x,h,rfl⟩:=h;simp only [zh] at a;simp only [vf,zh,zF];exact zc8 (zup lent) x u (zhy h a)
 ·rw [yb] at h
  obtain ⟨xs,h,rfl⟩:=h;simp only [zh] at a;obtain ⟨us,e,f⟩:=a;simp only [zDc,zh];exact ⟨us,e,zoC (zup lent) rfl h f⟩
 ·cases h
theorem zmB (R : Rel g w σ) {lent : Bool} : ∀ {vs a : List V} {us : List Value},zrm σ vs = some a → (vs.any zwy = true → lent = true) → zO g w σ vs us → zO (g.inn lent w) w [] a us
 | [],a,us,h,_,hv => by
   simp only [zrm,Option.some.injEq] at h;subst h;simpa only [zO] using hv
 | v :: vs,a,us,h,hl,hv => by
   simp only [zrm] at h;obtain ⟨y,z,d,e,rfl⟩:=zgo h;simp only [zO] at hv ⊢;obtain ⟨x,xs,rfl,c,b⟩:=hv;simp only [List.any_cons,Bool.or_eq_true] at hl;exact ⟨x,xs,rfl,zyN R d (fun h => hl (.inl h)) c,zmB R e (fun h => hl (.inr h)) b⟩
def Ow.shift (n : Nat) : Ow → Ow
 | .no => .no
 | .ob id => .ob (id + n)
 | .tk t k => .tk (t + n) k
def G.out (g : G) (w : World) (n : Nat) (keep : Prop) (g' : G) : G where
 ρ:=fun id => if id < n then g.ρ id else g'.ρ (id - n)
 tv:=fun t k => if t < n then g.tv t k else g'.tv (t - n) k
 ow:=fun b => if b < w.heap.size then g.ow b else (g'.ow b).shift n
 N:=fun b o => g.N b o ∨ (w.heap.size ≤ b ∧ keep ∧ g'.N b o)
section
variable {lent : Bool} {keep : Prop} {g' : G} {w' : World} {σ' : zd}
theorem out_ρ_old {id : Nat} (h : id < n) : (g.out w n keep g').ρ id = g.ρ id:=by simp [G.out,h]
theorem out_ρ_new {id : Nat} : (g.out w n keep g').ρ (id + n) = g'.ρ id:=by
 show (if id + n < n then _ else g'.ρ (id + n - n)) = _
 rw [if_neg (by omega),yf]
theorem zsm {t k : Nat} (h : t < n) : (g.out w n keep g').tv t k = g.tv t k:=by simp [G.out,h]
theorem zr9 {t k : Nat} : (g.out w n keep g').tv (t + n) k = g'.tv t k:=by
 show (if t + n < n then _ else g'.tv (t + n - n) k) = _
 rw [if_neg (by omega),yf]
theorem zsi {b : Nat} (h : b < w.heap.size) : (g.out w n keep g').ow b = g.ow b:=by simp [G.out,h]
theorem znY {b : Nat} (h : ¬ b < w.heap.size) : (g.out w n keep g').ow b = (g'.ow b).shift n:=by simp [G.out,h]
theorem zw7 (R : Rel g w σ) (H : Ext (g.inn lent w) w [] g' w' σ') (os : List Ob) : Ext g w σ (g.out w σ.length keep g') w' (σ ++ os) where
 os:=H.os
 tape:=H.tape
 output:=H.output
 size:=H.size
 keeps:=fun b o h => ⟨.inl h,by
  unfold World.cell?
  rw [H.frame b (R.nb b o h) rfl]⟩
 len:=by simp
 shape:=fun id f sz len h => by
  obtain ⟨es,a,_⟩:=za9 h;have c:=zb a;refine .inl ⟨by unfold shapeOf; rw [yc c]; exact h,out_ρ_old c,fun _ arr t e => ⟨arr,?_,rfl⟩⟩;rw [H.frame _ (yh.1 e).1 rfl];exact e
 map:=fun id es h => ⟨out_ρ_old (zb h),es,by rw [yc (zb h)]; exact h⟩
 tok:=fun t k m h => by
  obtain ⟨sz,fr,a,i⟩:=zdR h;exact ⟨m,zew (by rw [yc (zb a)]; exact a) i,Nat.le_refl _,fun _ => zsm (zb a)⟩
 tsz:=fun t sz h => by
  obtain ⟨fr,a⟩:=zfS h;exact zde (fr:=fr) (by rw [yc (zb a)]; exact a)
 ow:=fun b d => zsi d
 new:=fun b o h d _ => h.elim id fun h => by omega
 frame:=fun b d _ => H.frame b d rfl
theorem znv (e : keep) (a : lent = false) (H : Ext (g.inn lent w) w [] g' w' σ') : zhV w' w' g'.N (g.out w n keep g').N:=fun b o h => ⟨by
 by_cases d : b < w.heap.size
 ·have:=H.new b o h d rfl
  rcases this with c | c
  ·exact .inl c
  ·rw [a] at c; cases c.1
 ·exact .inr ⟨by omega,e,h⟩,rfl⟩
theorem zm7 (os : List Ob) {i : Nat} {o : Ob} (h : σ'[i]? = some o) : (σ ++ σ'.map (Ob.shift σ.length))[i + σ.length]? = some (o.shift σ.length):=by
 rw [yg (by omega),yf,yi,h];rfl
theorem zqo {id a sz len : Nat} (h : shapeOf σ' id = some (a,sz,len)) : shapeOf (σ ++ σ'.map (Ob.shift σ.length)) (id + σ.length) = some (a,sz,len):=by
 obtain ⟨es,b,c⟩:=za9 h;rw [zC (zm7 [] b)];simp [c]
theorem zD7 {t k m : Nat} (h : zow σ' t k = some m) : zow (σ ++ σ'.map (Ob.shift σ.length)) (t + σ.length) k = some m:=by
 obtain ⟨sz,fr,a,b⟩:=zdR h;exact zew (zm7 [] a) b
theorem zCy {t sz : Nat} (h : zph σ' t = some sz) : zph (σ ++ σ'.map (Ob.shift σ.length)) (t + σ.length) = some sz:=by
 obtain ⟨fr,a⟩:=zfS h;exact zde (zm7 [] a)
mutual
theorem zoq (l : keep) (d : lent = false) (H : Ext (g.inn lent w) w [] g' w' σ') : ∀ (c : C) (u : Value),zF g' w' σ' c u → zF (g.out w σ.length keep g') w' (σ ++ σ'.map (Ob.shift σ.length)) (c.shift σ.length) u
 | .f x,u,h => by
   simp only [C.shift,zF] at h ⊢;exact zc8 (znv l d H) x u h
 | .ap t k xs,u,h => by
   simp only [C.shift,zF] at h ⊢;obtain ⟨e,m,j,n,r,sz,q,p⟩:=h;exact ⟨zc8 (znv l d H) _ u e,m,zD7 j,n,by rw [zr9]; exact r,sz,zCy q,p⟩
 | .ptr id ver i off,u,h => by
   simp only [C.shift,zF] at h ⊢;obtain ⟨v0,sz,len,e,j⟩:=h;exact ⟨v0,sz,len,zqo e,by rw [out_ρ_new]; exact j⟩
 | .fp cs off,u,h => by
   simp only [C.shift,zF] at h ⊢;obtain ⟨b,o,e,j⟩:=h;exact ⟨b,o,e,zfL (znv l d H) cs b o j⟩
 | .own id ver lo m,u,h => by
   simp only [C.shift,zF] at h ⊢;obtain ⟨v0,sz,len,e,j⟩:=h;exact ⟨v0,sz,len,zqo e,by rw [out_ρ_new]; exact j⟩
 | .map id,u,h => by
   simp only [C.shift,zF] at h ⊢;obtain ⟨⟨es,e⟩,j⟩:=h;exact ⟨⟨_,zm7 [] e⟩,by rw [out_ρ_new]; exact j⟩
 | .fn f a b,u,h => by
   simp only [C.shift,zF] at h ⊢;obtain ⟨fs,cs,e,j,n⟩:=h;exact ⟨fs,cs,e,zjj l d H a _ j,zjj l d H b _ n⟩
 | .un,_,_ => by simp only [C.shift,zF]
theorem zjj (b : keep) (a : lent = false) (H : Ext (g.inn lent w) w [] g' w' σ') : ∀ (cs : List C) (us : List Value),zA g' w' σ' cs us → zA (g.out w σ.length keep g') w' (σ ++ σ'.map (Ob.shift σ.length)) (C.shifts σ.length cs) us
 | [],us,h => by simpa only [C.shifts,zA] using h
 | c :: cs,us,h => by
   simp only [C.shifts,zA] at h ⊢;obtain ⟨v,vs,e,f,d⟩:=h;exact ⟨v,vs,e,zoq b a H c v f,zjj b a H cs vs d⟩
end
mutual
theorem zot (b : keep) (a : lent = false) (H : Ext (g.inn lent w) w [] g' w' σ') : ∀ (c : V) (u : Value),zh g' w' σ' c u → zh (g.out w σ.length keep g') w' (σ ++ σ'.map (Ob.shift σ.length)) (c.shift σ.length) u
 | .one c,u,h => by
   simp only [V.shift,zh] at h ⊢;exact zoq b a H c u h
 | .agg cs,u,h => by
   simp only [V.shift,zh] at h ⊢;obtain ⟨us,d,e⟩:=h;exact ⟨us,d,zjj b a H cs _ e⟩
 | .tup vs,u,h => by
   simp only [V.shift,zh] at h ⊢;obtain ⟨us,d,e⟩:=h;exact ⟨us,d,zqu b a H vs _ e⟩
theorem zqu (b : keep) (a : lent = false) (H : Ext (g.inn lent w) w [] g' w' σ') : ∀ (vs : List V) (us : List Value),zO g' w' σ' vs us → zO (g.out w σ.length keep g') w' (σ ++ σ'.map (Ob.shift σ.length)) (V.shifts σ.length vs) us
 | [],us,h => by simpa only [V.shifts,zO] using h
 | c :: cs,us,h => by
   simp only [V.shifts,zO] at h ⊢;obtain ⟨v,vs,e,f,d⟩:=h;exact ⟨v,vs,e,zot b a H c v f,zqu b a H cs vs d⟩
end
theorem zrK {n : Nat} : ∀ {cs : List C} {j : Nat} {c : C},(C.shifts n cs)[j]? = some c → ∃ c',cs[j]? = some c' ∧ c = c'.shift n
 | [],j,c,h => by simp [C.shifts] at h
 | x :: cs,j,c,h => by
   cases j with
   | zero => simp [C.shifts] at h; exact ⟨x,by simp,h.symm⟩
   | succ j => simpa using zrK (cs:=cs) (by simpa [C.shifts] using h)
theorem zne {n : Nat} : ∀ {cs : List C},(C.shifts n cs).length = cs.length
 | [] => rfl
 | x :: cs => by simp [C.shifts,zne (cs:=cs)]
theorem zrR (b : keep) (a : lent = false) (H : Ext (g.inn lent w) w [] g' w' σ') : ∀ {es : List (Int × V)} {zX : List MapEntry},zp8 g' w' σ' es zX → zp8 (g.out w σ.length keep g') w' (σ ++ σ'.map (Ob.shift σ.length)) (es.map fun e => (e.1,e.2.shift σ.length)) zX
 | [],_,h => h
 | x :: xs,_,h => by
   obtain ⟨e,rest,d,i,f,c⟩:=h;exact ⟨e,rest,d,i,zot b a H _ _ f,zrR b a H c⟩
theorem zpR (R : Rel g w σ) (H : Ext (g.inn lent w) w [] g' w' σ') (d : Rel g' w' σ') (os : List Ob) {id : Nat} {o : Ob} (a : σ[id]? = some o) : zDd (g.out w σ.length keep g') w' (σ ++ os) id o :=
 zcl (zw7 R H os) (out_ρ_old (zb a)) (fun _ => zsm (zb a)) (fun b c _ => ⟨H.frame b c rfl,zsi c,fun o h => h.elim (fun h => h) fun h => by omega⟩) (R.ob id o a)
theorem zrU (R : Rel g w σ) (H : Ext (g.inn lent w) w [] g' w' σ') (a : Rel g' w' σ') : ∀ b o,(g.out w σ.length keep g').N b o → b < w'.heap.size:=fun b o h =>
 h.elim (fun h => Nat.lt_of_lt_of_le (R.nb b o h) H.size) fun h => a.nb b o h.2.2
theorem zwf (R : Rel g w σ) (H : Ext (g.inn lent w) w [] g' w' []) (a : Rel g' w' []) : Rel (g.out w σ.length keep g') w' σ :=
 ⟨zrU R H a,fun id o b => by simpa using zpR (keep:=keep) R H a [] b⟩
theorem zF2 (R : Rel g w σ) (I : keep) (f : lent = false) (H : Ext (g.inn lent w) w [] g' w' σ') (E : Rel g' w' σ') : Rel (g.out w σ.length keep g') w' (σ ++ σ'.map (Ob.shift σ.length)):=by
 refine ⟨zrU R H E,fun id o C => ?_⟩
 by_cases D : id < σ.length
 ·rw [yc D] at C
  exact zpR R H E _ C
 ·rw [yg (by omega),yi,yb] at C
  obtain ⟨A,a,rfl⟩:=C;obtain ⟨j,rfl⟩ : ∃ j,id = j + σ.length:=⟨id - σ.length,by omega⟩;rw [yf] at a;have p:=E.ob j A a;have l : ∀ b,g'.ow b ≠ .no → ¬ b < w.heap.size:=fun b n d => n (H.ow b d)
  have v : ∀ b,¬ b < w.heap.size → (∀ o,¬ g'.N b o) → ∀ o,¬ (g.out w σ.length keep g').N b o:=fun b d Q o h => by
   rcases h with h | h
   ·exact d (R.nb b o h)
   ·exact Q o h.2.2
  cases A with
  | cells ver sz es =>
    intro n;have x : es ≠ []:=fun h => n (by rw [h]; rfl);obtain ⟨q,z,arr,t,s,r,B⟩:=p x;have d:=l _ (by rw [q]; simp);rw [out_ρ_new];refine ⟨by rw [znY d,q]; rfl,v _ d z,arr,t,s,by simpa using r,fun i e y => ?_⟩;rw [yi,yb] at y;obtain ⟨J,y,rfl⟩:=y;refine ⟨by rw [zne]; exact (B i J y).1,fun j c O => ?_⟩;obtain ⟨K,G,rfl⟩:=zrK O;obtain ⟨u,U,S,M⟩:=(B i J y).2 j K G;exact ⟨u,U,zoq I f H K u S,M⟩
  | mp es =>
    obtain ⟨q,z,zX,clock,s,r⟩:=p;have d:=l _ (by rw [q]; simp)
    show _ ∧ _
    rw [out_ρ_new];exact ⟨by rw [znY d,q]; rfl,v _ d z,zX,clock,s,zpr r (fun e => (e.1,e.2.shift σ.length)) (fun _ => rfl) fun es' _ h => zrR I f H h⟩
  | tok sz fr =>
    intro k m hm;rw [zr9];rcases p k m hm with h | ⟨b,o,c,arr,t,q,z,s,r,B,P,L⟩
    ·exact .inl h
    ·have d:=l _ (by rw [r]; simp)
     refine .inr ⟨b,o,c,arr,t,q,z,s,by rw [znY d,r]; rfl,B,P,fun A a => ?_⟩;rcases a with a | a
     ·exact absurd (R.nb _ _ a) d
     ·exact L A a.2.2
mutual
theorem zvJ {e : World} {σ2 : zd} {n l : G} (d : zhV e e n.N l.N) : ∀ (c : C) (u : Value),zF n e [] c u → zF l e σ2 c u
 | .f x,u,h => by simp only [zF] at h ⊢; exact zc8 d x u h
 | .ap t k xs,u,h => by have:=zn4 _ u h; simp [C.lt] at this
 | .ptr id ver i off,u,h => by have:=zn4 _ u h; simp [C.lt] at this
 | .fp cs off,u,h => by
   simp only [zF] at h ⊢;obtain ⟨b,o,g,j⟩:=h;exact ⟨b,o,g,zfL d cs b o j⟩
 | .own id ver lo m,u,h => by have:=zn4 _ u h; simp [C.lt] at this
 | .map id,u,h => by have:=zn4 _ u h; simp [C.lt] at this
 | .fn f a b,u,h => by
   simp only [zF] at h ⊢;obtain ⟨fs,cs,g,j,p⟩:=h;exact ⟨fs,cs,g,zlG d a _ j,zlG d b _ p⟩
 | .un,_,_ => by simp only [zF]
theorem zlG {a : World} {σ2 : zd} {d b : G} (e : zhV a a d.N b.N) : ∀ (cs : List C) (us : List Value),zA d a [] cs us → zA b a σ2 cs us
 | [],us,h => by simpa only [zA] using h
 | c :: cs,us,h => by
   simp only [zA] at h ⊢;obtain ⟨v,vs,g,i,f⟩:=h;exact ⟨v,vs,g,zvJ e c v i,zlG e cs vs f⟩
end
mutual
theorem zvA {a : World} {σ2 : zd} {g f : G} (b : zhV a a g.N f.N) : ∀ (c : V) (u : Value),zh g a [] c u → zh f a σ2 c u
 | .one c,u,h => by simp only [zh] at h ⊢; exact zvJ b c u h
 | .agg cs,u,h => by
   simp only [zh] at h ⊢;obtain ⟨us,d,e⟩:=h;exact ⟨us,d,zlG b cs _ e⟩
 | .tup vs,u,h => by
   simp only [zh] at h ⊢;obtain ⟨us,d,e⟩:=h;exact ⟨us,d,zrI b vs _ e⟩
theorem zrI {a : World} {σ2 : zd} {d b : G} (e : zhV a a d.N b.N) : ∀ (vs : List V) (us : List Value),zO d a [] vs us → zO b a σ2 vs us
 | [],us,h => by simpa only [zO] using h
 | c :: cs,us,h => by
   simp only [zO] at h ⊢;obtain ⟨v,vs,g,i,f⟩:=h;exact ⟨v,vs,g,zvA e c v i,zrI e cs vs f⟩
end
theorem zre {j b : World} {σ1 σ2 : zd} {i d : G} : ∀ {cs : List C} {us : List Value},(cs.all fun c => match c with
  | .f (.lit _) => true
  | _ => false) = true → zA i j σ1 cs us → zA d b σ2 cs us
 | [],us,_,h => by simpa only [zA] using h
 | c :: cs,us,hp,h => by
   simp only [List.all_cons,ya] at hp;simp only [zA] at h ⊢;obtain ⟨v,vs,k,e,g⟩:=h;refine ⟨v,vs,k,?_,zre hp.2 g⟩;have a:=hp.1;split at a
   ·simpa only [zF,rep] using e
   ·cases a
mutual
theorem zr2 {i d : World} {σ1 σ2 : zd} {g e : G} : ∀ (c : V) (u : Value),c.plain = true → zh g i σ1 c u → zh e d σ2 c u
 | .one c,u,hp,h => by
   cases c with
   | f x =>
     cases x with
     | lit v => simpa only [zh,zF,rep] using h
     | sl xs => simp [V.plain] at hp
   | _ => simp [V.plain] at hp
 | .agg cs,u,hp,h => by
   simp only [V.plain] at hp;simp only [zh] at h ⊢;obtain ⟨us,a,b⟩:=h;exact ⟨us,a,zre hp b⟩
 | .tup vs,u,hp,h => by
   simp only [V.plain] at hp;simp only [zh] at h ⊢;obtain ⟨us,a,b⟩:=h;exact ⟨us,a,zrb vs _ hp b⟩
theorem zrb {f a : World} {σ1 σ2 : zd} {e b : G} : ∀ (vs : List V) (us : List Value),V.plains vs = true → zO e f σ1 vs us → zO b a σ2 vs us
 | [],us,_,h => by simpa only [zO] using h
 | c :: cs,us,hp,h => by
   simp only [V.plains,ya] at hp;simp only [zO] at h ⊢;obtain ⟨v,vs,g,i,d⟩:=h;exact ⟨v,vs,g,zr2 c v hp.1 i,zrb cs vs hp.2 d⟩
end
end
end
def Enters (P : Program) (f : Nat) : Prop := ∃ fn c, P.funcs[f]? = some fn ∧ (fn.name == "runtime.NumGoroutine") = false ∧ fn.body = some c
def zg3 (P : Program) (C : zaq) : Prop:=∀ (f : Nat) (args : List V) (σ : zd) (v : V) (σ' : zd),C f args σ = some (v,σ') →
 Enters P f ∧ ∀ (g : G) (w : World) (us : List Value),Rel g w σ → zO g w σ args us → Calls P f us.toArray w fun e w' => ∃ u g',e = .returned u ∧ zh g' w' σ' v u ∧ Rel g' w' σ' ∧ Ext g w σ g' w' σ'
section
variable {P : Program} {κ : List Tmp} {loc : List (Option Tmp)} {nt : Nat} {g : G} {w : World} {r r' : R} {a : Act} {o : Go.Oper} {d : D} {next : Act → World → Prop} {Q : Exit → Act → World → Prop}
theorem zkx {σ : zd} : ∀ {vs a : List V} {us us' : List Value},zO g w σ vs us → zO g w σ a us' → zO g w σ (vs ++ a) (us ++ us')
 | [],a,us,us',h,h' => by
   simp only [zO] at h;subst h;simpa using h'
 | v :: vs,a,us,us',h,h' => by
   simp only [zO,List.cons_append] at h ⊢;obtain ⟨x,xs,rfl,b,c⟩:=h;exact ⟨x,xs ++ us',rfl,b,zkx c h'⟩
theorem zqX {σ : zd} : ∀ {cs : List C} {us : List Value},zA g w σ cs us → zO g w σ (cs.map V.one) us
 | [],us,h => by simpa only [zA,zO,yl] using h
 | c :: cs,us,h => by
   simp only [zA] at h;obtain ⟨v,vs,rfl,a,b⟩:=h;simp only [yj,zO];exact ⟨v,vs,rfl,by simp only [zh]; exact a,zqX b⟩
theorem zuS {f : Nat} (h : Enters P f) (args : Array Value) : (callFunc f args).run P w = .ok (.enter f args) w:=by
 obtain ⟨fn,c,h1,h2,h3⟩:=h
 have h2' : ¬ fn.name = "runtime.NumGoroutine" := by simpa using h2
 simp [callFunc,h1,h2',h3]
theorem zn0 {ct : Go.Call} {fv : Operand} (d : o.op = .call ct) (b : ct.callee = .value fv) {f : Nat} {fs cs : Array Value} (c : a.eval fv = .func (.func f) fs cs) (he : Enters P f) :
  (execOp a.eval o).run P w = .ok (.enter f (fs ++ ct.args.map a.eval ++ cs)) w:=by
 unfold execOp;simp only [d,resolve,b,c,Deferred.ofValue,invoke,Sem.run_bind,Sem.run_pure,Result.andThen_ok,zuS he]
theorem ztK {f : Nat} {args : Array Value} (h : (execOp a.eval o).run P w = .ok (.enter f args) w) {R : Ending → World → Prop} (b : Calls P f args w R) (k : ∀ e w',R e w' → ∃ u,e = .returned u ∧ next (a.put o.dst u) w') : o.wp P a w next Q:=by
 unfold Oper.wp;rw [h,Oper.upon_enter];refine Calls.mono b fun e w' he => ?_;obtain ⟨u,rfl,c⟩:=k e w' he;exact c
theorem zzg {O : zaq} (S : zg3 P O) (p : Rel g w r.st) (L : Low r.base r.lim r.st) (F : Fr κ loc nt g w r a) {ct : Go.Call} {fv : Operand} {m : Mode} {fx : X} {xs : List X} (K : o.op = .call ct) (j : ct.callee = .value fv) (hd : okD κ nt o.dst d = true)
  (N : okX κ loc fv fx = true) (I : zBz κ loc ct.args.toList xs = true) {r1 : R} (h : zpl O r d m (r.gets xs) (r.get fx) = some r1) (k : zrj κ (zbp o.dst d :: loc) nt g w r r1 (a.put o.dst) next) : o.wp P a w next Q:=by
 have E:=F.get N;have s:=F.gets I;unfold zpl at h;split at h
 ·rename_i f first i G
  rw [G] at E;simp only [zh,zF] at E;obtain ⟨fs,cs,ef,Z,h2⟩:=E;have c : zO g w r.st (first.map V.one ++ (r.gets xs ++ i.map V.one)) (fs.toList ++ (ct.args.toList.map a.eval ++ cs.toList)):=zkx (zqX Z) (zkx s (zqX h2))
  have n : (fs ++ ct.args.map a.eval ++ cs) = (fs.toList ++ (ct.args.toList.map a.eval ++ cs.toList)).toArray:=by
   apply Array.ext';simp
  cases m with
  | op =>
    simp only [yb] at h;obtain ⟨⟨v,σ'⟩,l,rfl⟩:=h;obtain ⟨he,A⟩:=S f _ _ v σ' l;refine ztK (zn0 K j ef he) (R:=_) (by rw [n]; exact A g w _ p c) fun e w' z => ?_;obtain ⟨u,g',rfl,t,B,H⟩:=z;refine ⟨u,rfl,?_⟩;have Y : Low r.base r.lim σ':=⟨trivial⟩;have hst : ({ r with st:=σ' } : R).st = σ':=rfl;have hF : Fr κ loc nt g' w' { r with st:=σ' } a:=F.ext (r':={ r with st:=σ' }) H rfl rfl;refine k g' w' _ ?_ ?_ ?_ (hF.put hd fun _ => t) <;> rw [zxx,zfw]
    ·exact H
    ·exact B
    ·exact Y
  | cl =>
    simp only at h;rw [ye] at h;obtain ⟨⟨v,σ'⟩,l,h⟩:=h;rw [ye] at l;obtain ⟨aS,q,l⟩:=l;generalize b : (first.map V.one ++ (r.gets xs ++ i.map V.one)).any zwy = lent at h;unfold zxe at h;split at h
    ·rename_i W
     obtain ⟨J,M⟩:=W;have U : σ' = []:=yd J;subst U;injection h with h;subst h;obtain ⟨he,A⟩:=S f aS [] v [] l;refine ztK (zn0 K j ef he) (R:=_) (by rw [n]; exact A (g.inn lent w) w _ (zBk p lent) (zmB p q (fun h => by rw [← b]; exact h) c)) fun e w' z => ?_;obtain ⟨u,g',rfl,t,B,H⟩:=z;refine ⟨u,rfl,?_⟩;have y : Ext g w r.st (g.out w r.st.length (lent = false) g') w' r.st:=(by simpa using zw7 (keep:=lent = false) p H []);have D:=zwf (keep:=lent = false) p H B;have hF : Fr κ loc nt (g.out w r.st.length (lent = false) g') w' r a:=F.ext y rfl rfl;refine k _ w' _ ?_ ?_ ?_ (hF.put hd fun _ => ?_)
     ·rw [zfw]; exact y
     ·rw [zfw]; exact D
     ·rw [zfw]; exact L
     ·rcases M with C | C
      ·exact zvA (znv C C H) v u t
      ·exact zr2 v u C t
    ·cases h
  | ck =>
    simp only at h;split at h
    ·cases h
    ·rename_i x
     have b : (first.map V.one ++ (r.gets xs ++ i.map V.one)).any zwy = false:=(by simpa using x);rw [yb] at h;obtain ⟨⟨v,σ'⟩,l,rfl⟩:=h;rw [ye] at l;obtain ⟨aS,q,l⟩:=l;obtain ⟨he,A⟩:=S f aS [] v σ' l;refine ztK (zn0 K j ef he) (R:=_) (by rw [n]; exact A (g.inn false w) w _ (zBk p false) (zmB p q (fun h => by rw [b] at h; cases h) c)) fun e w' z => ?_;obtain ⟨u,g',rfl,t,B,H⟩:=z;refine ⟨u,rfl,?_⟩;have y:=zw7 (keep:=True) p H (σ'.map (Ob.shift r.st.length));have D:=zF2 (keep:=True) p trivial rfl H B;have hF : Fr κ loc nt (g.out w r.st.length True g') w' { r with st:=r.st ++ σ'.map (Ob.shift r.st.length) } a:=F.ext (r':={ r with st:=r.st ++ σ'.map (Ob.shift r.st.length) }) y rfl rfl;refine k _ w' _ ?_ ?_ ?_ (hF.put hd fun _ => zot trivial rfl H v u t) <;> rw [zx9,zfw]
     ·exact y
     ·exact D
     ·exact L.append _
 ·cases h
end
end Go.A
namespace Go.A
section
variable {P : Program} {κ : List Tmp} {loc : List (Option Tmp)} {nt : Nat} {g : G} {w : World} {r r' : R} {a : Act} {o : Go.Oper} {d : D} {next : Act → World → Prop} {Q : Exit → Act → World → Prop}
end
def G.give (g : G) (b : Nat) : G:={ g with N:=fun b' o => g.N b' o ∨ b' = b }
section
variable {P : Program} {κ : List Tmp} {loc : List (Option Tmp)} {nt : Nat} {g : G} {w : World} {r r' : R} {a : Act} {o : Go.Oper} {d : D} {next : Act → World → Prop} {Q : Exit → Act → World → Prop} {σ : zd}
end
section
variable {P : Program} {κ : List Tmp} {loc : List (Option Tmp)} {nt : Nat} {g : G} {w : World} {r r' : R} {a : Act} {o : Go.Oper} {d : D} {next : Act → World → Prop} {Q : Exit → Act → World → Prop} {σ : zd}
end
def zIz : D → Bool
 | .no => true
 | _ => false
def zDG (κ : List Tmp) (loc : List (Option Tmp)) : Option Operand → Option X → Bool
 | none,none => true
 | some x,some y => okX κ loc x y
 | _,_ => false
def zG3 (P : Program) (t : TypeId) : Option Nat → Bool
 | none => zlM P t == some false
 | some n => zlM P t == some true && zjg P t == some n
def zyi (P : Program) (t : TypeId) (zero : List C) (fresh : List (Nat × Nat)) : Bool :=
 match zeroOf P t with
 | some zs => zgm zs zero && zjM zs fresh
 | none => false
def zIC : Go.Op → Option (TypeId × Operand × Operand × Operand)
 | .mapUpdate t m k v => some (t,m,k,v)
 | .insert t m k v => some (t,m,k,v)
 | _ => none
theorem zBf {o : Go.Op} {t : TypeId} {m k v : Operand} (h : zIC o = some (t,m,k,v)) : o = .mapUpdate t m k v ∨ o = .insert t m k v:=by
 unfold zIC at h;split at h
 ·injection h with h
  simp only [Prod.mk.injEq] at h;obtain ⟨rfl,rfl,rfl,rfl⟩:=h;exact .inl rfl
 ·injection h with h
  simp only [Prod.mk.injEq] at h;obtain ⟨rfl,rfl,rfl,rfl⟩:=h;exact .inr rfl
 ·cases h
def znN (P : Program) (κ : List Tmp) (loc : List (Option Tmp)) (o : Go.Oper) (d : D) : Op → Bool
 | .mv x => match o.op with
   | .move y => okX κ loc y x
   | .assign y => okX κ loc y x
   | _ => false
 | .pick c x y => match o.op with
   | .pick c' x' y' => okX κ loc c' c && okX κ loc x' x && okX κ loc y' y
   | _ => false
 | .bin op x y => match o.op with
   | .binOp op' _ x' y' _ => decide (op' = op) && okX κ loc x' x && okX κ loc y' y
   | _ => false
 | .beq neg x y => match o.op with
   | .binOp op t x' y' _ => (match op with
     | .eql => !neg
     | .neq => neg
     | _ => false) && (match P.underlying t with
     | some .bool => true
     | _ => false) && okX κ loc x' x && okX κ loc y' y
   | _ => false
 | .eqa n neg x y => match o.op with
   | .binOp op t x' y' _ => (match op with
     | .eql => !neg
     | .neq => neg
     | _ => false) && zxI P t == some n && !(P.eqGuardType P.depth t) && okX κ loc x' x && okX κ loc y' y
   | _ => false
 | .un op x => match o.op with
   | .unOp op' _ x' => decide (op' = op) && okX κ loc x' x
   | _ => false
 | .conv k x => match o.op with
   | .convert s t x' => (P.underlying s).isSome && (match P.underlying t with
     | some (.int k') => decide (k' = k)
     | _ => false) && okX κ loc x' x
   | _ => false
 | .len x => match o.op with
   | .call { callee:=.builtin .len,args:=⟨[x']⟩,argTypes:=⟨[t]⟩ } => (match P.underlying t with
     | some (.slice _) => true
     | _ => false) && okX κ loc x' x
   | _ => false
 | .fa off x => match o.op with
   | .fieldAddr t x' i => (match P.underlying t with
     | some (.struct fs) => (match fs[i]? with
       | some f => (match zjg P f.type with
         | some n => decide (n ≠ 0)
         | none => false) && f.offset == off
       | none => false)
     | _ => false) && okX κ loc x' x
   | _ => false
 | .ia sz x i => match o.op with
   | .indexAddr t x' i' => (match P.underlying t with
     | some (.slice e) => zjg P e == some sz
     | _ => false) && okX κ loc x' x && okX κ loc i' i
   | _ => false
 | .iaa n sz x i => match o.op with
   | .indexAddr t x' i' => (match P.underlying t with
     | some (.array n' e) => n' == n && zjg P e == some sz
     | _ => false) && okX κ loc x' x && okX κ loc i' i
   | _ => false
 | .ld sz x => match o.op with
   | .load t x' => zG3 P t sz && okX κ loc x' x
   | _ => false
 | .st sz x v => match o.op with
   | .store t x' v' => zIz d && zjg P t == some sz && decide (0 < sz) && okX κ loc x' x && okX κ loc v' v
   | _ => false
 | .al zero fresh => match o.op with
   | .alloc t => zyi P t zero fresh
   | _ => false
 | .box sz x => match o.op with
   | .box _ x' => decide (0 < sz) && okX κ loc x' x
   | _ => false
 | .bld zero parts fresh => match o.op with
   | .build t ps => zyi P t zero fresh && (match zpG P t with
     | some place => zml κ loc place ps.toList parts
     | none => false)
   | _ => false
 | .bsl _ sz zero parts => match o.op with
   | .buildSlice t len ps => (match P.underlying t with
     | some (.slice e) => zjg P e == some sz && (match zeroOf P e with
       | some zs => zs.length == sz && zs.all Value.oneCell' && zCb zs zero
       | none => false)
     | _ => false) && decide (0 < sz) && zero.length == len && decide (len * sz ≤ 16777216) && zjG κ loc ps.toList parts
   | _ => false
 | .nl _ _ => match o.op with
   | .move (.const (.slice none 0 0)) => true
   | .assign (.const (.slice none 0 0)) => true
   | _ => false
 | .app sz s x => match o.op with
   | .call { callee:=.builtin .append,args:=⟨[s',x']⟩,argTypes:=⟨[t,t']⟩ } => t == t' && (match P.underlying t with
     | some (.slice e) => (match P.info? e with
       | some i => decide (i.bytes ≤ 32768) && i.size == sz
       | none => false) && (match zeroOf P e with
       | some zs => zs.length == sz
       | none => false)
     | _ => false) && decide (0 < sz) && okX κ loc s' s && okX κ loc x' x
   | _ => false
 | .cpy sz x y => match o.op with
   | .call { callee:=.builtin .copy,args:=⟨[x',y']⟩,argTypes:=⟨[t,_]⟩ } => (match P.underlying t with
     | some (.slice e) => zjg P e == some sz
     | _ => false) && decide (0 < sz) && okX κ loc x' x && okX κ loc y' y
   | _ => false
 | .mks zero fresh n => match o.op with
   | .makeSlice t (.tmp l) (.tmp c) => l == c && (match P.underlying t with
     | some (.slice e) => (match P.info? e with
       | some i => decide (i.bytes ≤ 32768) && decide (0 < i.size) && (match zeroOf P e with
         | some zs => zs.length == i.size && zgm zs zero && (match fresh with
           | some j => zjM zs [j]
           | none => true)
         | none => false)
       | none => false)
     | _ => false) && okX κ loc (.tmp l) n
   | _ => false
 | .mkc sz n => match o.op with
   | .makeSlice t (.const (.int _ 0)) x => (match P.underlying t with
     | some (.slice e) => (match P.info? e with
       | some i => decide (i.bytes ≤ 32768) && i.size == sz && i.zero.isSome
       | none => false)
     | _ => false) && okX κ loc x n
   | _ => false
 | .slc sz x lo hi mx => match o.op with
   | .slice t x' lo' hi' mx' => (match P.underlying t with
     | some (.slice e) => zjg P e == some sz
     | _ => false) && okX κ loc x' x && zDG κ loc lo' lo && zDG κ loc hi' hi && (match mx,mx' with
     | none,none => true
     | some m,some m' => hi.isSome && okX κ loc m' m
     | _,_ => false)
   | _ => false
 | .ext x i => match o.op with
   | .extract x' i' => i' == i && okX κ loc x' x
   | _ => false
 | .fld off sz x => match o.op with
   | .field t x' i => (match P.underlying t with
     | some (.struct fs) => (match fs[i]? with
       | some f => f.offset == off && zG3 P f.type sz
       | none => false)
     | _ => false) && okX κ loc x' x
   | _ => false
 | .nil x => match o.op with
   | .nilCheck x' => okX κ loc x' x
   | _ => false
 | .mkf f first caps => match o.op with
   | .makeFunc (.func f') first' caps' => f' == f && zBz κ loc first'.toList first && zBz κ loc caps'.toList caps
   | _ => false
 | .mkm => match o.op with
   | .makeMap _ none => true
   | _ => false
 | .lk zero ok m k => match o.op with
   | .lookup t m' k' ok' => ok' == ok && (match P.underlying t with
     | some (.map key elem) => (match P.underlying key with
       | some (.int .i64) => true
       | _ => false) && (match P.info? elem with
       | some i => (match i.zero with
         | some z => zqG z zero
         | none => false)
       | none => false)
     | _ => false) && okX κ loc m' m && okX κ loc k' k
   | _ => false
 | .mu m k v => match zIC o.op with
   | some (t,m',k',v') => zIz d && (match P.underlying t with
     | some (.map key _) => (match P.underlying key with
       | some (.int .i64) => true
       | _ => false)
     | _ => false) && okX κ loc m' m && okX κ loc k' k && okX κ loc v' v
   | none => false
 | .mxn isMax x y => match o.op with
   | .call { callee:=.builtin b,args:=⟨[x',y']⟩,.. } => decide (b = if isMax then .max else .min) && okX κ loc x' x && okX κ loc y' y
   | _ => false
 | .call _ f xs => match o.op with
   | .call { callee:=.value f',args,.. } => okX κ loc f' f && zBz κ loc args.toList xs
   | _ => false
 | .no _ => true
section
variable {P : Program} {κ : List Tmp} {loc : List (Option Tmp)} {nt : Nat} {g : G} {w : World} {r r' : R} {a : Act} {o : Go.Oper} {d : D} {next : Act → World → Prop} {Q : Exit → Act → World → Prop}
theorem zme (F : Fr κ loc nt g w r a) {x : Option Operand} {y : Option X} (h : zDG κ loc x y = true) : Opt g w r a x y:=by
 unfold zDG at h;split at h
 ·exact ⟨fun z b => (by cases b),fun _ => rfl⟩
 ·rename_i x y
  exact ⟨fun z b => (by injection b with b; subst b; exact ⟨x,rfl,F.get h⟩),fun c => (by cases c)⟩
 ·cases h
theorem zon {t : TypeId} : ∀ {sz : Option Nat},zG3 P t sz = true → match sz with
  | none => zlM P t = some false
  | some n => zlM P t = some true ∧ zjg P t = some n
 | none,h => by simpa [zG3] using h
 | some n,h => by simpa [zG3] using h
theorem zmE {t : TypeId} {zero : List C} {fresh : List (Nat × Nat)} (h : zyi P t zero fresh = true) : ∃ zs,zeroOf P t = some zs ∧ zgm zs zero = true ∧ zjM zs fresh = true:=by
 unfold zyi at h;split at h
 ·rename_i zs a
  simp only [ya] at h;exact ⟨zs,a,h⟩
 ·cases h
theorem zxn {Cf : zaq} (S : zg3 P Cf) (J : Rel g w r.st) (L : Low r.base r.lim r.st) (F : Fr κ loc nt g w r a) (hd : okD κ nt o.dst d = true) {x : Op} (p : znN P κ loc o d x = true) {r1 : R} (h : zbx Cf r d x = some r1)
  (k : zrj κ (zbp o.dst d :: loc) nt g w r r1 (a.put o.dst) next) : o.wp P a w next Q:=by
 have pure : ∀ {v : V},(∃ u,(execOp a.eval o).run P w = .ok (.value u) w ∧ zh g w r.st v u) → zrj κ (zbp o.dst d :: loc) nt g w r (r.put d v) (a.put o.dst) next → o.wp P a w next Q:=fun ⟨u,q,B⟩ kk => znK J L F hd q B kk
 have mapped : ∀ {x : Option V},x.map (r.put d) = some r1 → (∀ v,x = some v → ∃ u,(execOp a.eval o).run P w = .ok (.value u) w ∧ zh g w r.st v u) → o.wp P a w next Q:=fun {x} hx C => by
  rw [yb] at hx;obtain ⟨v,q,rfl⟩:=hx;exact pure (C v q) k
 cases x <;> simp only [zbx] at h <;> simp only [znN] at p
 case mv x =>
  injection h with h;subst h;split at p
  ·rename_i y A
   exact pure ⟨_,zsI (.inl A),F.get p⟩ k
  ·rename_i y A
   exact pure ⟨_,zsI (.inr A),F.get p⟩ k
  ·cases p
 case pick c x y =>
  split at p
  ·rename_i c' I X A
   simp only [ya] at p;exact mapped h fun v C => zy4 A (F.get p.1.1) (F.get p.1.2) (F.get p.2) C
  ·cases p
 case bin op x y =>
  split at p
  ·rename_i aB t I X yt A
   simp only [ya,decide_eq_true_eq] at p;obtain ⟨⟨rfl,q⟩,B⟩:=p;exact mapped h fun v C => zyr A (F.get q) (F.get B) C
  ·cases p
 case beq neg x y =>
  split at p
  ·rename_i op t I X ty A
   simp only [ya] at p;obtain ⟨⟨⟨q,B⟩,H⟩,E⟩:=p
   have U : (op = .eql ∧ neg = false) ∨ (op = .neq ∧ neg = true):=by
    cases op <;> simp_all
   split at B
   ·rename_i G
    exact mapped h fun v C => zCn A U G (F.get H) (F.get E) C
   ·cases B
  ·cases p
 case eqa n neg x y =>
  split at p
  ·rename_i op t I X ty A
   simp only [ya,beq_iff_eq,Bool.not_eq_true'] at p;obtain ⟨⟨⟨⟨q,B⟩,D⟩,H⟩,E⟩:=p
   have U : (op = .eql ∧ neg = false) ∨ (op = .neq ∧ neg = true):=by
    cases op <;> simp_all
   exact mapped h fun v C => zBW A U B D (F.get H) (F.get E) C
  ·cases p
 case un op x =>
  split at p
  ·rename_i aB t I A
   simp only [ya,decide_eq_true_eq] at p;obtain ⟨rfl,q⟩:=p;exact mapped h fun v C => zBq A (F.get q) C
  ·cases p
 case conv kk x =>
  split at p
  ·rename_i s t I A
   simp only [ya] at p;obtain ⟨⟨q,B⟩,D⟩:=p;split at B
   ·rename_i k' G
    have : k' = kk:=(by simpa using B);subst this;exact mapped h fun v C => zy5 A q G (F.get D) C
   ·cases B
  ·cases p
 case len x =>
  split at p
  ·rename_i I t A
   simp only [ya] at p;obtain ⟨q,B⟩:=p;split at q
   ·rename_i e G
    exact mapped h fun v C => zC1 A rfl rfl rfl G (F.get B) C
   ·cases q
  ·cases p
 case fa off x =>
  split at p
  ·rename_i t I i A
   simp only [ya] at p;obtain ⟨q,B⟩:=p;split at q
   ·rename_i fs G
    split at q
    ·rename_i f hf
     simp only [ya,beq_iff_eq] at q;obtain ⟨q,D⟩:=q;split at q
     ·rename_i n hs
      exact mapped h fun v C => zE5 A G hf hs (by simpa using q) D (F.get B) C
     ·cases q
    ·cases q
   ·cases q
  ·cases p
 case ia sz x i =>
  split at p
  ·rename_i t I i' A
   simp only [ya] at p;obtain ⟨⟨q,B⟩,D⟩:=p;split at q
   ·rename_i e G
    exact mapped h fun v C => zFb A G (by simpa using q) (F.get B) (F.get D) C
   ·cases q
  ·cases p
 case iaa n sz x i =>
  split at p
  ·rename_i t I i' A
   simp only [ya] at p;obtain ⟨⟨q,B⟩,D⟩:=p;split at q
   ·rename_i n' e G
    simp only [ya,beq_iff_eq] at q;obtain ⟨rfl,q⟩:=q;exact mapped h fun v C => zAP A G q (F.get B) (F.get D) C
   ·cases q
  ·cases p
 case ld sz x =>
  split at p
  ·rename_i t I A
   simp only [ya] at p;exact mapped h fun v C => zxK J A (zon p.1) (F.get p.2) C
  ·cases p
 case st sz x v =>
  split at p
  ·rename_i t I v' A
   simp only [ya,beq_iff_eq,decide_eq_true_eq] at p;obtain ⟨⟨⟨⟨q,B⟩,D⟩,H⟩,E⟩:=p;rw [yb] at h;obtain ⟨r2,h,rfl⟩:=h;exact zEz J L F A hd (by cases d <;> simp [zIz] at q ⊢) B D (F.get H) (F.get E) h k
  ·cases p
 case al zero fresh =>
  injection h with h;subst h;split at p
  ·rename_i t A
   obtain ⟨Z,q,B,D⟩:=zmE p;exact zDw J L F A hd q B D k
  ·cases p
 case box sz x =>
  split at p
  ·rename_i t I A
   simp only [ya,decide_eq_true_eq] at p;split at h
   ·rename_i W
    injection h with h;subst h;exact zB5 J L F A hd p.1 (F.get p.2) W.1 W.2 k
   ·cases h
  ·cases p
 case bld zero parts fresh =>
  split at p
  ·rename_i t ps A
   simp only [ya] at p;obtain ⟨q,B⟩:=p;obtain ⟨Z,D,H,E⟩:=zmE q;split at B
   ·rename_i place hp
    exact zBw J L F A hd D H E hp B h k
   ·cases B
  ·cases p
 case bsl b sz zero parts =>
  split at p
  ·rename_i t len ps A
   simp only [ya,beq_iff_eq,decide_eq_true_eq] at p;obtain ⟨⟨⟨⟨q,B⟩,D⟩,H⟩,E⟩:=p;split at q
   ·rename_i e G
    simp only [ya,beq_iff_eq] at q;obtain ⟨q,N⟩:=q;split at N
    ·rename_i Z O
     simp only [ya,beq_iff_eq] at N;exact zAW J L F A hd G q B D H O N.1.1 N.1.2 N.2 E h k
    ·cases N
   ·cases q
  ·cases p
 case nl b sz =>
  split at p
  ·rename_i A
   exact zxh J L F (.inl A) hd h k
  ·rename_i A
   exact zxh J L F (.inr A) hd h k
  ·cases p
 case app sz s x =>
  split at p
  ·rename_i s' I t t' A
   simp only [ya,beq_iff_eq,decide_eq_true_eq] at p;obtain ⟨⟨⟨⟨rfl,q⟩,B⟩,D⟩,H⟩:=p;split at q
   ·rename_i e G
    simp only [ya] at q;obtain ⟨q,E⟩:=q;split at q
    ·rename_i i M
     split at E
     ·rename_i Z O
      simp only [ya,beq_iff_eq,decide_eq_true_eq] at q E;exact zBP J L F A rfl rfl rfl hd G M q.1 q.2 B O E (F.get D) (F.get H) h k
     ·cases E
    ·cases q
   ·cases q
  ·cases p
 case cpy sz x y =>
  split at p
  ·rename_i I X t t' A
   simp only [ya,decide_eq_true_eq] at p;obtain ⟨⟨⟨q,B⟩,D⟩,H⟩:=p;split at q
   ·rename_i e G
    exact zAx J L F A rfl rfl rfl hd G (by simpa using q) B (F.get D) (F.get H) h k
   ·cases q
  ·cases p
 case mks zero fresh n =>
  split at p
  ·rename_i t l c A
   simp only [ya,beq_iff_eq] at p;obtain ⟨⟨rfl,q⟩,B⟩:=p;split at q
   ·rename_i e G
    split at q
    ·rename_i i M
     simp only [ya,decide_eq_true_eq] at q;obtain ⟨⟨D,H⟩,E⟩:=q;split at E
     ·rename_i Z O
      simp only [ya,beq_iff_eq] at E;obtain ⟨⟨N,h7⟩,h8⟩:=E;refine zAU J L F A hd G M D rfl H O N h7 (fun j hj => ?_) (F.get B) h k;subst hj;simp only [zjM,Bool.and_true] at h8;split at h8
      ·assumption
      ·cases h8
     ·cases E
    ·cases q
   ·cases q
  ·cases p
 case mkc sz n =>
  split at p
  ·rename_i t kl x A
   simp only [ya] at p;obtain ⟨q,B⟩:=p;split at q
   ·rename_i e G
    split at q
    ·rename_i i M
     simp only [ya,decide_eq_true_eq,beq_iff_eq] at q;obtain ⟨⟨D,H⟩,E⟩:=q;obtain ⟨z,O⟩:=Option.isSome_iff_exists.1 E;exact zAy J L F A hd G M D H O (F.get B) h k
    ·cases q
   ·cases q
  ·cases p
 case slc sz x lo M mx =>
  split at p
  ·rename_i t I aG aE aF A
   simp only [ya] at p;obtain ⟨⟨⟨⟨q,B⟩,D⟩,H⟩,E⟩:=p;split at q
   ·rename_i e G
    have K : zED r M mx = true:=by
     by_cases K : zED r M mx = true
     ·exact K
     ·rw [if_neg K] at h
      cases h
    rw [if_pos K] at h;refine mapped h fun v C => zz5 A G (by simpa using q) (zme F D) (zme F H) ?_ (F.get B) C;split at E
    ·exact .inl ⟨rfl,rfl⟩
    ·rename_i m m'
     simp only [ya] at E;obtain ⟨E,N⟩:=E;refine .inr ⟨rfl,E,?_⟩
     cases M with
     | none => cases E
     | some hx =>
       obtain ⟨z',e1,e2⟩:=(zme F H).1 hx rfl;have e3:=F.get N;simp only [zED] at K;unfold zwk at K;split at K
       ·rename_i q1 q2
        simp only [ya,decide_eq_true_eq] at K;rw [q1] at e3;rw [q2] at e2;rw [e1,yk,yk,(z7 e3).1,(z7 e2).1,K.1,K.2]
       ·cases K
    ·cases E
   ·cases q
  ·cases p
 case ext x i =>
  split at p
  ·rename_i I i' A
   simp only [ya,beq_iff_eq] at p;obtain ⟨rfl,q⟩:=p;exact mapped h fun v C => zBM A (F.get q) C
  ·cases p
 case fld off sz x =>
  split at p
  ·rename_i t I i A
   simp only [ya] at p;obtain ⟨q,B⟩:=p;split at q
   ·rename_i fs G
    split at q
    ·rename_i f hf
     simp only [ya,beq_iff_eq] at q;exact mapped h fun v C => zCc A G hf q.1 (zon q.2) (F.get B) C
    ·cases q
   ·cases q
  ·cases p
 case nil x =>
  split at p
  ·rename_i I A
   exact mapped h fun v C => zCd A (F.get p) C
  ·cases p
 case mkf f first caps =>
  injection h with h;subst h;split at p
  ·rename_i f' Y aA A
   simp only [ya,beq_iff_eq] at p;obtain ⟨⟨rfl,q⟩,B⟩:=p;exact pure (zBo F A q B) k
  ·cases p
 case mkm =>
  injection h with h;subst h;split at p
  ·rename_i t A
   exact zAh J L F A hd k
  ·cases p
 case lk zero ok m kk =>
  split at p
  ·rename_i t m' k' aD A
   simp only [ya,beq_iff_eq] at p;obtain ⟨⟨⟨rfl,q⟩,B⟩,D⟩:=p;split at q
   ·rename_i key elem G
    simp only [ya] at q;obtain ⟨q,H⟩:=q;split at q
    ·rename_i hk
     split at H
     ·rename_i i M
      split at H
      ·rename_i z O
       exact mapped h fun v C => zEu J A G hk M O H (F.get B) (F.get D) C
      ·cases H
     ·cases H
    ·cases q
   ·cases q
  ·cases p
 case mu m kk v =>
  split at p
  ·rename_i t m' k' v' A
   simp only [ya] at p;obtain ⟨⟨⟨⟨q,B⟩,D⟩,H⟩,E⟩:=p;split at B
   ·rename_i key elem G
    split at B
    ·rename_i hk
     rw [yb] at h;obtain ⟨r2,h,rfl⟩:=h;exact zDZ J L F (zBf A) hd (by cases d <;> simp [zIz] at q ⊢) G hk (F.get D) (F.get H) (F.get E) h k
    ·cases B
   ·cases B
  ·cases p
 case mxn isMax x y =>
  split at p
  ·rename_i b I X aC A
   simp only [ya,decide_eq_true_eq] at p;obtain ⟨⟨q,B⟩,D⟩:=p;exact mapped h fun v C => zCz A rfl q rfl (F.get B) (F.get D) C
  ·cases p
 case call m f xs =>
  split at p
  ·rename_i f' args aC A
   simp only [ya] at p;exact zzg S J L F A rfl hd p.1 p.2 h k
  ·cases p
 case no => exact absurd h (by simp [zbx])
end
end Go.A

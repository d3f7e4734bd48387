/- A part of the proof of AliasBoth. Conditions: none. -/
import Derived.Test.YtmkncmffaaninaaGreatAAG
import Derived.Laws.BytesArg
import Derived.Laws.Strings
set_option linter.all false
open Bool renaming and_eq_true → ya
open Option renaming map_eq_some_iff → yb,bind_eq_some_iff → ye,map_some → yk
open List renaming getElem?_append_left → yc,eq_nil_of_length_eq_zero → yd,getElem?_append_right → yg,getElem?_map → yi,map_cons → yj,map_nil → yl
open Nat renaming add_sub_cancel → yf
open Array renaming getElem?_eq_some_iff → yh
namespace Go.A
section
variable {g : G} {w : World} {σ : zb} {n : Nat}
theorem zkN (R : Rel g w σ) {A : zeb} (O : ∀ b o,g.N b o → A b o) {id l lo n : Nat} (P : ∀ o,A (g.ρ id) o ∨ ¬ (∃ sz es,σ[id]? = some (.cells l sz es) ∧ es ≠ [])) {xs : List (List Fz)} {u : Value} (h : (σ[id]?).bind (Ob.frz l lo n) = some xs) (Q : ze g w σ (.one (.own id l lo n)) u) : rep w A (.sl xs) u:=by
 rw [ye] at h;obtain ⟨ob,v,m⟩:=h;unfold Ob.frz at m;split at m
 ·rename_i I sz es
  split at m
  ·rename_i p
   subst p;obtain ⟨a,c,D,e2,S,W⟩:=zeG Q v;obtain ⟨H,G⟩:=zc9 m;simp only [rep]
   by_cases d : es = []
   ·subst d
    have:=S rfl;have J : n = 0:=(by omega);subst J;have s : xs = []:=yd (by rw [H]; simp);subst s;exact ⟨a,c,sz,D,by simp,by simp only [zbr],.inl rfl⟩
   ·obtain ⟨f1,f2,arr,t,f3,f4⟩:=W fun h => d (yd h)
    obtain ⟨_,_,E,Z,m1,m2,B⟩:=R.ob id _ v d;have r : xs.length = n:=by rw [H]; simp; omega
    have k : ∀ i e,((es.drop lo).take n)[i]? = some e → es[lo + i]? = some e:=fun i e f => by
     rw [List.getElem?_take] at f;split at f
     ·rwa [List.getElem?_drop] at f
     ·cases f
    refine ⟨a,c,sz,by rw [r]; exact D,by omega,zcT fun e he => ?_,?_⟩
    ·obtain ⟨i,f⟩:=List.mem_iff_getElem?.1 he
     obtain ⟨q,z,y⟩:=G i e f;rw [(zdK y).1];exact (B _ q (k i q z)).1
    ·rcases Nat.eq_zero_or_pos n with M | M
     ·exact .inl (yd (by omega))
     ·refine .inr ⟨g.ρ id,lo * sz,f2 (by omega),zdI fun i e f => zf4 fun j x V => ?_⟩
      obtain ⟨q,z,y⟩:=G i e f;obtain ⟨cc,L,X⟩:=(zdK y).2 j x V;obtain ⟨C,U,K,Y⟩:=(B _ q (k i q z)).2 j cc L;refine ⟨C,(P _).resolve_right fun s => s ⟨sz,es,v,d⟩,?_,zbD (fun b o h => ⟨O b o h,rfl⟩) x C (zeJ X K)⟩;rw [zfQ m1,show lo * sz + i * sz + j = (lo + i) * sz + j from by rw [Nat.add_mul]];exact U
  ·cases m
 ·cases m
def G.inn (g : G) (lent : Bool) (w : World) : G:=⟨fun _ => 0,fun _ _ => undef,fun _ => .no,fun b o => g.N b o ∨ (lent = true ∧ b < w.heap.size)⟩
theorem zvQ (R : Rel g w σ) (lent : Bool) : Rel (g.inn lent w) w []:=⟨fun b o h => h.elim (R.nb b o) fun h => h.2,fun id o h => by simp at h⟩
theorem zqQ (lent : Bool) : ze5 w w g.N (g.inn lent w).N:=fun _ _ h => ⟨.inl h,rfl⟩
theorem zkO {b : zeb} (H : ze5 w w g.N b) {g' : G} {σ' : zb} (a : g'.N = b) : ∀ {cs : List C} {xs : List Fz} {us : List Value},zdm cs = some xs → zm g w σ cs us → zm g' w σ' (xs.map C.f) us
 | [],xs,us,h,hr => by
   simp only [zdm,Option.some.injEq] at h;subst h;simpa only [yl,zm] using hr
 | c :: cs,xs,us,h,hr => by
   simp only [zdm] at h;obtain ⟨y,z,j,d,rfl⟩:=zdY h;simp only [zm] at hr;obtain ⟨v,vs,rfl,e,i⟩:=hr;simp only [yj,zm];exact ⟨v,vs,rfl,by simp only [zq]; rw [a]; exact zbD H y v (zeJ j e),zkO H a d i⟩
theorem zuN (R : Rel g w σ) {lent : Bool} {v v' : V} {u : Value} (h : zAP σ v = some v') (m : zsL v = true → lent = true) (a : ze g w σ v u) : ze (g.inn lent w) w [] v' u:=by
 unfold zAP at h;split at h
 ·rename_i id f lo n
  rw [yb] at h;obtain ⟨xs,h,rfl⟩:=h;have c:=m rfl;simp only [vsl,ze,zq];refine zkN R (fun b o h => .inl h) (fun o => ?_) h a
  by_cases i : ∃ sz es,σ[id]? = some (.cells f sz es) ∧ es ≠ []
  ·obtain ⟨sz,es,q,p⟩:=i
   obtain ⟨_,_,arr,t,k,_⟩:=R.ob id _ q p;exact .inl (.inr ⟨c,(yh.1 k).1⟩)
  ·exact .inr i
 ·injection h with h
  subst h;simp only [ze,zq] at a ⊢;obtain ⟨l,cs,e,d,j⟩:=a;exact ⟨l,cs,e,by simpa only [zm] using d,by simpa only [zm] using j⟩
 ·rw [yb] at h
  obtain ⟨x,h,rfl⟩:=h;simp only [ze] at a;simp only [vf,ze,zq];exact zbD (zqQ lent) x u (zeJ h a)
 ·rw [yb] at h
  obtain ⟨xs,h,rfl⟩:=h;simp only [ze] at a;obtain ⟨us,e,d⟩:=a;simp only [zym,ze];exact ⟨us,e,zkO (zqQ lent) rfl h d⟩
 ·cases h
theorem zjt (R : Rel g w σ) {lent : Bool} : ∀ {vs a : List V} {us : List Value},znY σ vs = some a → (vs.any zsL = true → lent = true) → zv g w σ vs us → zv (g.inn lent w) w [] a us
 | [],a,us,h,_,hv => by
   simp only [znY,Option.some.injEq] at h;subst h;simpa only [zv] using hv
 | v :: vs,a,us,h,hl,hv => by
   simp only [znY] at h;obtain ⟨y,z,e,b,rfl⟩:=zdY h;simp only [zv] at hv ⊢;obtain ⟨x,xs,rfl,c,d⟩:=hv;simp only [List.any_cons,Bool.or_eq_true] at hl;exact ⟨x,xs,rfl,zuN R e (fun h => hl (.inl h)) c,zjt R b (fun h => hl (.inr h)) d⟩
def Ow.shift (n : Nat) : Ow → Ow
 | .no => .no
 | .ob id => .ob (id + n)
 | .tk t k => .tk (t + n) k
def G.out (g : G) (w : World) (n : Nat) (keep : Prop) (g' : G) : G where
 ρ:=fun id => if id < n then g.ρ id else g'.ρ (id - n)
 tv:=fun t k => if t < n then g.tv t k else g'.tv (t - n) k
 ow:=fun b => if b < w.heap.size then g.ow b else (g'.ow b).shift n
 N:=fun b o => g.N b o ∨ (w.heap.size ≤ b ∧ keep ∧ g'.N b o)
section
variable {lent : Bool} {keep : Prop} {g' : G} {w' : World} {σ' : zb}
theorem out_ρ_old {id : Nat} (h : id < n) : (g.out w n keep g').ρ id = g.ρ id:=by simp [G.out,h]
theorem out_ρ_new {id : Nat} : (g.out w n keep g').ρ (id + n) = g'.ρ id:=by
 show (if id + n < n then _ else g'.ρ (id + n - n)) = _
 rw [if_neg (by omega),yf]
theorem zoq {t k : Nat} (h : t < n) : (g.out w n keep g').tv t k = g.tv t k:=by simp [G.out,h]
theorem zor {t k : Nat} : (g.out w n keep g').tv (t + n) k = g'.tv t k:=by
 show (if t + n < n then _ else g'.tv (t + n - n) k) = _
 rw [if_neg (by omega),yf]
theorem zoh {b : Nat} (h : b < w.heap.size) : (g.out w n keep g').ow b = g.ow b:=by simp [G.out,h]
theorem zkQ {b : Nat} (h : ¬ b < w.heap.size) : (g.out w n keep g').ow b = (g'.ow b).shift n:=by simp [G.out,h]
theorem zsi (R : Rel g w σ) (H : Ext (g.inn lent w) w [] g' w' σ') (os : List Ob) : Ext g w σ (g.out w σ.length keep g') w' (σ ++ os) where
 os:=H.os
 tape:=H.tape
 output:=H.output
 size:=H.size
 keeps:=fun b o h => ⟨.inl h,by
  unfold World.cell?
  rw [H.frame b (R.nb b o h) rfl]⟩
 len:=by simp
 shape:=fun id i sz len h => by
  obtain ⟨es,a,_⟩:=zao h;have c:=za a;refine .inl ⟨by unfold shapeOf; rw [yc c]; exact h,out_ρ_old c,fun _ arr t e => ⟨arr,?_,rfl⟩⟩;rw [H.frame _ (yh.1 e).1 rfl];exact e
 map:=fun id es h => ⟨out_ρ_old (za h),es,by rw [yc (za h)]; exact h⟩
 tok:=fun t k m h => by
  obtain ⟨sz,fr,a,f⟩:=zb7 h;exact ⟨m,zct (by rw [yc (za a)]; exact a) f,Nat.le_refl _,fun _ => zoq (za a)⟩
 tsz:=fun t sz h => by
  obtain ⟨fr,a⟩:=zdh h;exact zbC (fr:=fr) (by rw [yc (za a)]; exact a)
 ow:=fun b d => zoh d
 new:=fun b o h d _ => h.elim id fun h => by omega
 frame:=fun b d _ => H.frame b d rfl
theorem zka (e : keep) (a : lent = false) (H : Ext (g.inn lent w) w [] g' w' σ') : ze5 w' w' g'.N (g.out w n keep g').N:=fun b o h => ⟨by
 by_cases d : b < w.heap.size
 ·have:=H.new b o h d rfl
  rcases this with c | c
  ·exact .inl c
  ·rw [a] at c; cases c.1
 ·exact .inr ⟨by omega,e,h⟩,rfl⟩
theorem zjz (os : List Ob) {i : Nat} {o : Ob} (h : σ'[i]? = some o) : (σ ++ σ'.map (Ob.shift σ.length))[i + σ.length]? = some (o.shift σ.length):=by
 rw [yg (by omega),yf,yi,h];rfl
theorem zm9 {id a sz len : Nat} (h : shapeOf σ' id = some (a,sz,len)) : shapeOf (σ ++ σ'.map (Ob.shift σ.length)) (id + σ.length) = some (a,sz,len):=by
 obtain ⟨es,c,b⟩:=zao h;rw [zo (zjz [] c)];simp [b]
theorem zzF {t k m : Nat} (h : zkF σ' t k = some m) : zkF (σ ++ σ'.map (Ob.shift σ.length)) (t + σ.length) k = some m:=by
 obtain ⟨sz,fr,b,a⟩:=zb7 h;exact zct (zjz [] b) a
theorem zwi {t sz : Nat} (h : zlR σ' t = some sz) : zlR (σ ++ σ'.map (Ob.shift σ.length)) (t + σ.length) = some sz:=by
 obtain ⟨fr,a⟩:=zdh h;exact zbC (zjz [] a)
mutual
theorem zku (l : keep) (d : lent = false) (H : Ext (g.inn lent w) w [] g' w' σ') : ∀ (c : C) (u : Value),zq g' w' σ' c u → zq (g.out w σ.length keep g') w' (σ ++ σ'.map (Ob.shift σ.length)) (c.shift σ.length) u
 | .f x,u,h => by
   simp only [C.shift,zq] at h ⊢;exact zbD (zka l d H) x u h
 | .ap t k xs,u,h => by
   simp only [C.shift,zq] at h ⊢;obtain ⟨j,m,e,n,r,sz,q,s⟩:=h;exact ⟨zbD (zka l d H) _ u j,m,zzF e,n,by rw [zor]; exact r,sz,zwi q,s⟩
 | .ptr id ver i off,u,h => by
   simp only [C.shift,zq] at h ⊢;obtain ⟨v0,sz,len,j,e⟩:=h;exact ⟨v0,sz,len,zm9 j,by rw [out_ρ_new]; exact e⟩
 | .fp cs off,u,h => by
   simp only [C.shift,zq] at h ⊢;obtain ⟨b,o,j,e⟩:=h;exact ⟨b,o,j,zc8 (zka l d H) cs b o e⟩
 | .own id ver lo m,u,h => by
   simp only [C.shift,zq] at h ⊢;obtain ⟨v0,sz,len,j,e⟩:=h;exact ⟨v0,sz,len,zm9 j,by rw [out_ρ_new]; exact e⟩
 | .map id,u,h => by
   simp only [C.shift,zq] at h ⊢;obtain ⟨⟨es,j⟩,e⟩:=h;exact ⟨⟨_,zjz [] j⟩,by rw [out_ρ_new]; exact e⟩
 | .fn f a b,u,h => by
   simp only [C.shift,zq] at h ⊢;obtain ⟨p,cs,j,e,n⟩:=h;exact ⟨p,cs,j,zgl l d H a _ e,zgl l d H b _ n⟩
 | .un,_,_ => by simp only [C.shift,zq]
theorem zgl (b : keep) (a : lent = false) (H : Ext (g.inn lent w) w [] g' w' σ') : ∀ (cs : List C) (us : List Value),zm g' w' σ' cs us → zm (g.out w σ.length keep g') w' (σ ++ σ'.map (Ob.shift σ.length)) (C.shifts σ.length cs) us
 | [],us,h => by simpa only [C.shifts,zm] using h
 | c :: cs,us,h => by
   simp only [C.shifts,zm] at h ⊢;obtain ⟨v,vs,f,d,e⟩:=h;exact ⟨v,vs,f,zku b a H c v d,zgl b a H cs vs e⟩
end
mutual
theorem zks (d : keep) (a : lent = false) (H : Ext (g.inn lent w) w [] g' w' σ') : ∀ (c : V) (u : Value),ze g' w' σ' c u → ze (g.out w σ.length keep g') w' (σ ++ σ'.map (Ob.shift σ.length)) (c.shift σ.length) u
 | .one c,u,h => by
   simp only [V.shift,ze] at h ⊢;exact zku d a H c u h
 | .agg cs,u,h => by
   simp only [V.shift,ze] at h ⊢;obtain ⟨us,e,b⟩:=h;exact ⟨us,e,zgl d a H cs _ b⟩
 | .tup vs,u,h => by
   simp only [V.shift,ze] at h ⊢;obtain ⟨us,e,b⟩:=h;exact ⟨us,e,zmD d a H vs _ b⟩
theorem zmD (b : keep) (a : lent = false) (H : Ext (g.inn lent w) w [] g' w' σ') : ∀ (vs : List V) (us : List Value),zv g' w' σ' vs us → zv (g.out w σ.length keep g') w' (σ ++ σ'.map (Ob.shift σ.length)) (V.shifts σ.length vs) us
 | [],us,h => by simpa only [V.shifts,zv] using h
 | c :: cs,us,h => by
   simp only [V.shifts,zv] at h ⊢;obtain ⟨v,vs,f,d,e⟩:=h;exact ⟨v,vs,f,zks b a H c v d,zmD b a H cs vs e⟩
end
theorem zoo {n : Nat} : ∀ {cs : List C} {j : Nat} {c : C},(C.shifts n cs)[j]? = some c → ∃ c',cs[j]? = some c' ∧ c = c'.shift n
 | [],j,c,h => by simp [C.shifts] at h
 | x :: cs,j,c,h => by
   cases j with
   | zero => simp [C.shifts] at h; exact ⟨x,by simp,h.symm⟩
   | succ j => simpa using zoo (cs:=cs) (by simpa [C.shifts] using h)
theorem zke {n : Nat} : ∀ {cs : List C},(C.shifts n cs).length = cs.length
 | [] => rfl
 | x :: cs => by simp [C.shifts,zke (cs:=cs)]
theorem zoD (b : keep) (a : lent = false) (H : Ext (g.inn lent w) w [] g' w' σ') : ∀ {es : List (Int × V)} {zB : List MapEntry},zmT g' w' σ' es zB → zmT (g.out w σ.length keep g') w' (σ ++ σ'.map (Ob.shift σ.length)) (es.map fun e => (e.1,e.2.shift σ.length)) zB
 | [],_,h => h
 | x :: xs,_,h => by
   obtain ⟨e,rest,c,f,i,d⟩:=h;exact ⟨e,rest,c,f,zks b a H _ _ i,zoD b a H d⟩
theorem zmj (R : Rel g w σ) (H : Ext (g.inn lent w) w [] g' w' σ') (d : Rel g' w' σ') (os : List Ob) {id : Nat} {o : Ob} (a : σ[id]? = some o) : zyl (g.out w σ.length keep g') w' (σ ++ os) id o :=
 zbi (zsi R H os) (out_ρ_old (za a)) (fun _ => zoq (za a)) (fun b c _ => ⟨H.frame b c rfl,zoh c,fun o h => h.elim (fun h => h) fun h => by omega⟩) (R.ob id o a)
theorem zoK (R : Rel g w σ) (H : Ext (g.inn lent w) w [] g' w' σ') (a : Rel g' w' σ') : ∀ b o,(g.out w σ.length keep g').N b o → b < w'.heap.size:=fun b o h =>
 h.elim (fun h => Nat.lt_of_lt_of_le (R.nb b o h) H.size) fun h => a.nb b o h.2.2
theorem zs6 (R : Rel g w σ) (H : Ext (g.inn lent w) w [] g' w' []) (a : Rel g' w' []) : Rel (g.out w σ.length keep g') w' σ :=
 ⟨zoK R H a,fun id o b => by simpa using zmj (keep:=keep) R H a [] b⟩
theorem zAm (R : Rel g w σ) (K : keep) (l : lent = false) (H : Ext (g.inn lent w) w [] g' w' σ') (D : Rel g' w' σ') : Rel (g.out w σ.length keep g') w' (σ ++ σ'.map (Ob.shift σ.length)):=by
 refine ⟨zoK R H D,fun id o B => ?_⟩
 by_cases E : id < σ.length
 ·rw [yc E] at B
  exact zmj R H D _ B
 ·rw [yg (by omega),yi,yb] at B
  obtain ⟨A,a,rfl⟩:=B;obtain ⟨j,rfl⟩ : ∃ j,id = j + σ.length:=⟨id - σ.length,by omega⟩;rw [yf] at a;have n:=D.ob j A a;have f : ∀ b,g'.ow b ≠ .no → ¬ b < w.heap.size:=fun b p d => p (H.ow b d)
  have z : ∀ b,¬ b < w.heap.size → (∀ o,¬ g'.N b o) → ∀ o,¬ (g.out w σ.length keep g').N b o:=fun b d M o h => by
   rcases h with h | h
   ·exact d (R.nb b o h)
   ·exact M o h.2.2
  cases A with
  | cells ver sz es =>
    intro p;have y : es ≠ []:=fun h => p (by rw [h]; rfl);obtain ⟨q,s,arr,t,v,r,C⟩:=n y;have d:=f _ (by rw [q]; simp);rw [out_ρ_new];refine ⟨by rw [zkQ d,q]; rfl,z _ d s,arr,t,v,by simpa using r,fun i e x => ?_⟩;rw [yi,yb] at x;obtain ⟨J,x,rfl⟩:=x;refine ⟨by rw [zke]; exact (C i J x).1,fun j c O => ?_⟩;obtain ⟨I,G,rfl⟩:=zoo O;obtain ⟨u,S,Q,L⟩:=(C i J x).2 j I G;exact ⟨u,S,zku K l H I u Q,L⟩
  | mp es =>
    obtain ⟨q,s,zB,clock,v,r⟩:=n;have d:=f _ (by rw [q]; simp)
    show _ ∧ _
    rw [out_ρ_new];exact ⟨by rw [zkQ d,q]; rfl,z _ d s,zB,clock,v,zlW r (fun e => (e.1,e.2.shift σ.length)) (fun _ => rfl) fun es' _ h => zoD K l H h⟩
  | tok sz fr =>
    intro k m hm;rw [zor];rcases n k m hm with h | ⟨b,o,c,arr,t,q,s,v,r,C,U,P⟩
    ·exact .inl h
    ·have d:=f _ (by rw [r]; simp)
     refine .inr ⟨b,o,c,arr,t,q,s,v,by rw [zkQ d,r]; rfl,C,U,fun A a => ?_⟩;rcases a with a | a
     ·exact absurd (R.nb _ _ a) d
     ·exact P A a.2.2
mutual
theorem zqv {e : World} {σ2 : zb} {n l : G} (d : ze5 e e n.N l.N) : ∀ (c : C) (u : Value),zq n e [] c u → zq l e σ2 c u
 | .f x,u,h => by simp only [zq] at h ⊢; exact zbD d x u h
 | .ap t k xs,u,h => by have:=zk9 _ u h; simp [C.lt] at this
 | .ptr id ver i off,u,h => by have:=zk9 _ u h; simp [C.lt] at this
 | .fp cs off,u,h => by
   simp only [zq] at h ⊢;obtain ⟨b,o,j,g⟩:=h;exact ⟨b,o,j,zc8 d cs b o g⟩
 | .own id ver lo m,u,h => by have:=zk9 _ u h; simp [C.lt] at this
 | .map id,u,h => by have:=zk9 _ u h; simp [C.lt] at this
 | .fn f a b,u,h => by
   simp only [zq] at h ⊢;obtain ⟨q,cs,j,g,p⟩:=h;exact ⟨q,cs,j,ziw d a _ g,ziw d b _ p⟩
 | .un,_,_ => by simp only [zq]
theorem ziw {a : World} {σ2 : zb} {d b : G} (e : ze5 a a d.N b.N) : ∀ (cs : List C) (us : List Value),zm d a [] cs us → zm b a σ2 cs us
 | [],us,h => by simpa only [zm] using h
 | c :: cs,us,h => by
   simp only [zm] at h ⊢;obtain ⟨v,vs,i,f,g⟩:=h;exact ⟨v,vs,i,zqv e c v f,ziw e cs vs g⟩
end
mutual
theorem zqZ {a : World} {σ2 : zb} {g f : G} (d : ze5 a a g.N f.N) : ∀ (c : V) (u : Value),ze g a [] c u → ze f a σ2 c u
 | .one c,u,h => by simp only [ze] at h ⊢; exact zqv d c u h
 | .agg cs,u,h => by
   simp only [ze] at h ⊢;obtain ⟨us,e,b⟩:=h;exact ⟨us,e,ziw d cs _ b⟩
 | .tup vs,u,h => by
   simp only [ze] at h ⊢;obtain ⟨us,e,b⟩:=h;exact ⟨us,e,zob d vs _ b⟩
theorem zob {a : World} {σ2 : zb} {d b : G} (e : ze5 a a d.N b.N) : ∀ (vs : List V) (us : List Value),zv d a [] vs us → zv b a σ2 vs us
 | [],us,h => by simpa only [zv] using h
 | c :: cs,us,h => by
   simp only [zv] at h ⊢;obtain ⟨v,vs,i,f,g⟩:=h;exact ⟨v,vs,i,zqZ e c v f,zob e cs vs g⟩
end
theorem zm2 {j g : World} {σ1 σ2 : zb} {e d : G} : ∀ {cs : List C} {us : List Value},(cs.all fun c => match c with
  | .f (.lit _) => true
  | _ => false) = true → zm e j σ1 cs us → zm d g σ2 cs us
 | [],us,_,h => by simpa only [zm] using h
 | c :: cs,us,hp,h => by
   simp only [List.all_cons,ya] at hp;simp only [zm] at h ⊢;obtain ⟨v,vs,k,b,i⟩:=h;refine ⟨v,vs,k,?_,zm2 hp.2 i⟩;have a:=hp.1;split at a
   ·simpa only [zq,rep] using b
   ·cases a
mutual
theorem zoB {i g : World} {σ1 σ2 : zb} {e d : G} : ∀ (c : V) (u : Value),c.plain = true → ze e i σ1 c u → ze d g σ2 c u
 | .one c,u,hp,h => by
   cases c with
   | f x =>
     cases x with
     | lit v => simpa only [ze,zq,rep] using h
     | sl xs => simp [V.plain] at hp
   | _ => simp [V.plain] at hp
 | .agg cs,u,hp,h => by
   simp only [V.plain] at hp;simp only [ze] at h ⊢;obtain ⟨us,b,a⟩:=h;exact ⟨us,b,zm2 hp a⟩
 | .tup vs,u,hp,h => by
   simp only [V.plain] at hp;simp only [ze] at h ⊢;obtain ⟨us,b,a⟩:=h;exact ⟨us,b,zmS vs _ hp a⟩
theorem zmS {g e : World} {σ1 σ2 : zb} {d b : G} : ∀ (vs : List V) (us : List Value),V.plains vs = true → zv d g σ1 vs us → zv b e σ2 vs us
 | [],us,_,h => by simpa only [zv] using h
 | c :: cs,us,hp,h => by
   simp only [V.plains,ya] at hp;simp only [zv] at h ⊢;obtain ⟨v,vs,i,a,f⟩:=h;exact ⟨v,vs,i,zoB c v hp.1 a,zmS cs vs hp.2 f⟩
end
end
end
def Enters (P : Program) (f : Nat) : Prop := ∃ fn c, P.funcs[f]? = some fn ∧ (fn.name == "runtime.NumGoroutine") = false ∧ fn.body = some c
def zen (P : Program) (C : zL) : Prop:=∀ (f : Nat) (args : List V) (σ : zb) (v : V) (σ' : zb),C f args σ = some (v,σ') →
 Enters P f ∧ ∀ (g : G) (w : World) (us : List Value),Rel g w σ → zv g w σ args us → Calls P f us.toArray w fun e w' => ∃ u g',e = .returned u ∧ ze g' w' σ' v u ∧ Rel g' w' σ' ∧ Ext g w σ g' w' σ'
section
variable {P : Program} {κ : List Tmp} {loc : List (Option Tmp)} {nt : Nat} {g : G} {w : World} {r r' : R} {a : Act} {o : Go.Oper} {d : D} {next : Act → World → Prop} {Q : Exit → Act → World → Prop}
theorem zhF {σ : zb} : ∀ {vs a : List V} {us us' : List Value},zv g w σ vs us → zv g w σ a us' → zv g w σ (vs ++ a) (us ++ us')
 | [],a,us,us',h,h' => by
   simp only [zv] at h;subst h;simpa using h'
 | v :: vs,a,us,us',h,h' => by
   simp only [zv,List.cons_append] at h ⊢;obtain ⟨x,xs,rfl,c,b⟩:=h;exact ⟨x,xs ++ us',rfl,c,zhF b h'⟩
theorem zm8 {σ : zb} : ∀ {cs : List C} {us : List Value},zm g w σ cs us → zv g w σ (cs.map V.one) us
 | [],us,h => by simpa only [zm,zv,yl] using h
 | c :: cs,us,h => by
   simp only [zm] at h;obtain ⟨v,vs,rfl,b,a⟩:=h;simp only [yj,zv];exact ⟨v,vs,rfl,by simp only [ze]; exact b,zm8 a⟩
theorem zrI {f : Nat} (h : Enters P f) (args : Array Value) : (callFunc f args).run P w = .ok (.enter f args) w:=by
 obtain ⟨fn,c,h1,h2,h3⟩:=h
 have h2' : ¬ fn.name = "runtime.NumGoroutine" := by simpa using h2
 simp [callFunc,h1,h2',h3]
theorem zkw {ct : Go.Call} {c : Operand} (e : o.op = .call ct) (b : ct.callee = .value c) {f : Nat} {d cs : Array Value} (g : a.eval c = .func (.func f) d cs) (he : Enters P f) :
  (execOp a.eval o).run P w = .ok (.enter f (d ++ ct.args.map a.eval ++ cs)) w:=by
 unfold execOp;simp only [e,resolve,b,g,Deferred.ofValue,invoke,Sem.run_bind,Sem.run_pure,Result.andThen_ok,zrI he]
theorem zqi {f : Nat} {args : Array Value} (h : (execOp a.eval o).run P w = .ok (.enter f args) w) {R : Ending → World → Prop} (c : Calls P f args w R) (k : ∀ e w',R e w' → ∃ u,e = .returned u ∧ next (a.put o.dst u) w') : o.wp P a w next Q:=by
 unfold Oper.wp;rw [h,Oper.upon_enter];refine Calls.mono c fun e w' he => ?_;obtain ⟨u,rfl,b⟩:=k e w' he;exact b
theorem zvq {W : zL} (S : zen P W) (p : Rel g w r.st) (L : Low r.base r.lim r.st) (F : Fr κ loc nt g w r a) {ct : Go.Call} {Y : Operand} {m : Mode} {Z : X} {xs : List X} (G : o.op = .call ct) (i : ct.callee = .value Y) (hd : okD κ nt o.dst d = true)
  (O : okX κ loc Y Z = true) (N : zwc κ loc ct.args.toList xs = true) {r1 : R} (h : zlP W r d m (r.gets xs) (r.get Z) = some r1) (k : znO κ (zaH o.dst d :: loc) nt g w r r1 (a.put o.dst) next) : o.wp P a w next Q:=by
 have I:=F.get O;have q:=F.gets N;unfold zlP at h;split at h
 ·rename_i f first c U
  rw [U] at I;simp only [ze,zq] at I;obtain ⟨K,cs,D,h1,h2⟩:=I;have n : zv g w r.st (first.map V.one ++ (r.gets xs ++ c.map V.one)) (K.toList ++ (ct.args.toList.map a.eval ++ cs.toList)):=zhF (zm8 h1) (zhF q (zm8 h2))
  have j : (K ++ ct.args.map a.eval ++ cs) = (K.toList ++ (ct.args.toList.map a.eval ++ cs.toList)).toArray:=by
   apply Array.ext';simp
  cases m with
  | op =>
    simp only [yb] at h;obtain ⟨⟨v,σ'⟩,l,rfl⟩:=h;obtain ⟨he,y⟩:=S f _ _ v σ' l;refine zqi (zkw G i D he) (R:=_) (by rw [j]; exact y g w _ p n) fun e w' x => ?_;obtain ⟨u,g',rfl,t,A,H⟩:=x;refine ⟨u,rfl,?_⟩;have hL : Low r.base r.lim σ':=⟨trivial⟩;have hst : ({ r with st:=σ' } : R).st = σ':=rfl;have hF : Fr κ loc nt g' w' { r with st:=σ' } a:=F.ext (r':={ r with st:=σ' }) H rfl rfl;refine k g' w' _ ?_ ?_ ?_ (hF.put hd fun _ => t) <;> rw [ztp,zcX]
    ·exact H
    ·exact A
    ·exact hL
  | cl =>
    simp only at h;rw [ye] at h;obtain ⟨⟨v,σ'⟩,l,h⟩:=h;rw [ye] at l;obtain ⟨aS,s,l⟩:=l;generalize b : (first.map V.one ++ (r.gets xs ++ c.map V.one)).any zsL = lent at h;unfold ztj at h;split at h
    ·rename_i hc
     obtain ⟨J,M⟩:=hc;have hσ : σ' = []:=yd J;subst hσ;injection h with h;subst h;obtain ⟨he,y⟩:=S f aS [] v [] l;refine zqi (zkw G i D he) (R:=_) (by rw [j]; exact y (g.inn lent w) w _ (zvQ p lent) (zjt p s (fun h => by rw [← b]; exact h) n)) fun e w' x => ?_;obtain ⟨u,g',rfl,t,A,H⟩:=x;refine ⟨u,rfl,?_⟩;have z : Ext g w r.st (g.out w r.st.length (lent = false) g') w' r.st:=(by simpa using zsi (keep:=lent = false) p H []);have E:=zs6 (keep:=lent = false) p H A;have hF : Fr κ loc nt (g.out w r.st.length (lent = false) g') w' r a:=F.ext z rfl rfl;refine k _ w' _ ?_ ?_ ?_ (hF.put hd fun _ => ?_)
     ·rw [zcX]; exact z
     ·rw [zcX]; exact E
     ·rw [zcX]; exact L
     ·rcases M with C | C
      ·exact zqZ (zka C C H) v u t
      ·exact zoB v u C t
    ·cases h
  | ck =>
    simp only at h;split at h
    ·cases h
    ·rename_i B
     have b : (first.map V.one ++ (r.gets xs ++ c.map V.one)).any zsL = false:=(by simpa using B);rw [yb] at h;obtain ⟨⟨v,σ'⟩,l,rfl⟩:=h;rw [ye] at l;obtain ⟨aS,s,l⟩:=l;obtain ⟨he,y⟩:=S f aS [] v σ' l;refine zqi (zkw G i D he) (R:=_) (by rw [j]; exact y (g.inn false w) w _ (zvQ p false) (zjt p s (fun h => by rw [b] at h; cases h) n)) fun e w' x => ?_;obtain ⟨u,g',rfl,t,A,H⟩:=x;refine ⟨u,rfl,?_⟩;have z:=zsi (keep:=True) p H (σ'.map (Ob.shift r.st.length));have E:=zAm (keep:=True) p trivial rfl H A;have hF : Fr κ loc nt (g.out w r.st.length True g') w' { r with st:=r.st ++ σ'.map (Ob.shift r.st.length) } a:=F.ext (r':={ r with st:=r.st ++ σ'.map (Ob.shift r.st.length) }) z rfl rfl;refine k _ w' _ ?_ ?_ ?_ (hF.put hd fun _ => zks trivial rfl H v u t) <;> rw [zt2,zcX]
     ·exact z
     ·exact E
     ·exact L.append _
 ·cases h
end
end Go.A
namespace Go.A
section
variable {P : Program} {κ : List Tmp} {loc : List (Option Tmp)} {nt : Nat} {g : G} {w : World} {r r' : R} {a : Act} {o : Go.Oper} {d : D} {next : Act → World → Prop} {Q : Exit → Act → World → Prop}
end
def G.give (g : G) (b : Nat) : G:={ g with N:=fun b' o => g.N b' o ∨ b' = b }
section
variable {P : Program} {κ : List Tmp} {loc : List (Option Tmp)} {nt : Nat} {g : G} {w : World} {r r' : R} {a : Act} {o : Go.Oper} {d : D} {next : Act → World → Prop} {Q : Exit → Act → World → Prop} {σ : zb}
end
section
variable {P : Program} {κ : List Tmp} {loc : List (Option Tmp)} {nt : Nat} {g : G} {w : World} {r r' : R} {a : Act} {o : Go.Oper} {d : D} {next : Act → World → Prop} {Q : Exit → Act → World → Prop} {σ : zb}
end
def zCR : D → Bool
 | .no => true
 | _ => false
def zzO (κ : List Tmp) (loc : List (Option Tmp)) : Option Operand → Option X → Bool
 | none,none => true
 | some x,some y => okX κ loc x y
 | _,_ => false
def zBz (P : Program) (t : TypeId) : Option Nat → Bool
 | none => ziB P t == some false
 | some n => ziB P t == some true && zgf P t == some n
def zt0 (P : Program) (t : TypeId) (zero : List C) (fresh : List (Nat × Nat)) : Bool :=
 match zeroOf P t with
 | some zs => zdR zs zero && zgV zs fresh
 | none => false
def zDr : Go.Op → Option (TypeId × Operand × Operand × Operand)
 | .mapUpdate t m k v => some (t,m,k,v)
 | .insert t m k v => some (t,m,k,v)
 | _ => none
theorem zwN {o : Go.Op} {t : TypeId} {m k v : Operand} (h : zDr o = some (t,m,k,v)) : o = .mapUpdate t m k v ∨ o = .insert t m k v:=by
 unfold zDr at h;split at h
 ·injection h with h
  simp only [Prod.mk.injEq] at h;obtain ⟨rfl,rfl,rfl,rfl⟩:=h;exact .inl rfl
 ·injection h with h
  simp only [Prod.mk.injEq] at h;obtain ⟨rfl,rfl,rfl,rfl⟩:=h;exact .inr rfl
 ·cases h
def zkj (P : Program) (κ : List Tmp) (loc : List (Option Tmp)) (o : Go.Oper) (d : D) : Op → Bool
 | .mv x => match o.op with
   | .move y => okX κ loc y x
   | .assign y => okX κ loc y x
   | _ => false
 | .pick c x y => match o.op with
   | .pick c' x' y' => okX κ loc c' c && okX κ loc x' x && okX κ loc y' y
   | _ => false
 | .bin op x y => match o.op with
   | .binOp op' _ x' y' _ => decide (op' = op) && okX κ loc x' x && okX κ loc y' y
   | _ => false
 | .beq neg x y => match o.op with
   | .binOp op t x' y' _ => (match op with
     | .eql => !neg
     | .neq => neg
     | _ => false) && (match P.underlying t with
     | some .bool => true
     | _ => false) && okX κ loc x' x && okX κ loc y' y
   | _ => false
 | .eqa n neg x y => match o.op with
   | .binOp op t x' y' _ => (match op with
     | .eql => !neg
     | .neq => neg
     | _ => false) && ztx P t == some n && !(P.eqGuardType P.depth t) && okX κ loc x' x && okX κ loc y' y
   | _ => false
 | .un op x => match o.op with
   | .unOp op' _ x' => decide (op' = op) && okX κ loc x' x
   | _ => false
 | .conv k x => match o.op with
   | .convert s t x' => (P.underlying s).isSome && (match P.underlying t with
     | some (.int k') => decide (k' = k)
     | _ => false) && okX κ loc x' x
   | _ => false
 | .len x => match o.op with
   | .call { callee:=.builtin .len,args:=⟨[x']⟩,argTypes:=⟨[t]⟩ } => (match P.underlying t with
     | some (.slice _) => true
     | _ => false) && okX κ loc x' x
   | _ => false
 | .fa off x => match o.op with
   | .fieldAddr t x' i => (match P.underlying t with
     | some (.struct fs) => (match fs[i]? with
       | some f => (match zgf P f.type with
         | some n => decide (n ≠ 0)
         | none => false) && f.offset == off
       | none => false)
     | _ => false) && okX κ loc x' x
   | _ => false
 | .ia sz x i => match o.op with
   | .indexAddr t x' i' => (match P.underlying t with
     | some (.slice e) => zgf P e == some sz
     | _ => false) && okX κ loc x' x && okX κ loc i' i
   | _ => false
 | .iaa n sz x i => match o.op with
   | .indexAddr t x' i' => (match P.underlying t with
     | some (.array n' e) => n' == n && zgf P e == some sz
     | _ => false) && okX κ loc x' x && okX κ loc i' i
   | _ => false
 | .ld sz x => match o.op with
   | .load t x' => zBz P t sz && okX κ loc x' x
   | _ => false
 | .st sz x v => match o.op with
   | .store t x' v' => zCR d && zgf P t == some sz && decide (0 < sz) && okX κ loc x' x && okX κ loc v' v
   | _ => false
 | .al zero fresh => match o.op with
   | .alloc t => zt0 P t zero fresh
   | _ => false
 | .box sz x => match o.op with
   | .box _ x' => decide (0 < sz) && okX κ loc x' x
   | _ => false
 | .bld zero parts fresh => match o.op with
   | .build t ps => zt0 P t zero fresh && (match zlT P t with
     | some place => zjf κ loc place ps.toList parts
     | none => false)
   | _ => false
 | .bsl _ sz zero parts => match o.op with
   | .buildSlice t len ps => (match P.underlying t with
     | some (.slice e) => zgf P e == some sz && (match zeroOf P e with
       | some zs => zs.length == sz && zs.all Value.oneCell' && zv9 zs zero
       | none => false)
     | _ => false) && decide (0 < sz) && zero.length == len && decide (len * sz ≤ 16777216) && zgv κ loc ps.toList parts
   | _ => false
 | .nl _ _ => match o.op with
   | .move (.const (.slice none 0 0)) => true
   | .assign (.const (.slice none 0 0)) => true
   | _ => false
 | .app sz s x => match o.op with
   | .call { callee:=.builtin .append,args:=⟨[s',x']⟩,argTypes:=⟨[t,t']⟩ } => t == t' && (match P.underlying t with
     | some (.slice e) => (match P.info? e with
       | some i => decide (i.bytes ≤ 32768) && i.size == sz
       | none => false) && (match zeroOf P e with
       | some zs => zs.length == sz
       | none => false)
     | _ => false) && decide (0 < sz) && okX κ loc s' s && okX κ loc x' x
   | _ => false
 | .cpy sz x y => match o.op with
   | .call { callee:=.builtin .copy,args:=⟨[x',y']⟩,argTypes:=⟨[t,_]⟩ } => (match P.underlying t with
     | some (.slice e) => zgf P e == some sz
     | _ => false) && decide (0 < sz) && okX κ loc x' x && okX κ loc y' y
   | _ => false
 | .mks zero fresh n => match o.op with
   | .makeSlice t (.tmp l) (.tmp c) => l == c && (match P.underlying t with
     | some (.slice e) => (match P.info? e with
       | some i => decide (i.bytes ≤ 32768) && decide (0 < i.size) && (match zeroOf P e with
         | some zs => zs.length == i.size && zdR zs zero && (match fresh with
           | some j => zgV zs [j]
           | none => true)
         | none => false)
       | none => false)
     | _ => false) && okX κ loc (.tmp l) n
   | _ => false
 | .mkc sz n => match o.op with
   | .makeSlice t (.const (.int _ 0)) x => (match P.underlying t with
     | some (.slice e) => (match P.info? e with
       | some i => decide (i.bytes ≤ 32768) && i.size == sz && i.zero.isSome
       | none => false)
     | _ => false) && okX κ loc x n
   | _ => false
 | .slc sz x lo hi mx => match o.op with
   | .slice t x' lo' hi' mx' => (match P.underlying t with
     | some (.slice e) => zgf P e == some sz
     | _ => false) && okX κ loc x' x && zzO κ loc lo' lo && zzO κ loc hi' hi && (match mx,mx' with
     | none,none => true
     | some m,some m' => hi.isSome && okX κ loc m' m
     | _,_ => false)
   | _ => false
 | .ext x i => match o.op with
   | .extract x' i' => i' == i && okX κ loc x' x
   | _ => false
 | .fld off sz x => match o.op with
   | .field t x' i => (match P.underlying t with
     | some (.struct fs) => (match fs[i]? with
       | some f => f.offset == off && zBz P f.type sz
       | none => false)
     | _ => false) && okX κ loc x' x
   | _ => false
 | .nil x => match o.op with
   | .nilCheck x' => okX κ loc x' x
   | _ => false
 | .mkf f first caps => match o.op with
   | .makeFunc (.func f') first' caps' => f' == f && zwc κ loc first'.toList first && zwc κ loc caps'.toList caps
   | _ => false
 | .mkm => match o.op with
   | .makeMap _ none => true
   | _ => false
 | .lk zero ok m k => match o.op with
   | .lookup t m' k' ok' => ok' == ok && (match P.underlying t with
     | some (.map key elem) => (match P.underlying key with
       | some (.int .i64) => true
       | _ => false) && (match P.info? elem with
       | some i => (match i.zero with
         | some z => zmm z zero
         | none => false)
       | none => false)
     | _ => false) && okX κ loc m' m && okX κ loc k' k
   | _ => false
 | .mu m k v => match zDr o.op with
   | some (t,m',k',v') => zCR d && (match P.underlying t with
     | some (.map key _) => (match P.underlying key with
       | some (.int .i64) => true
       | _ => false)
     | _ => false) && okX κ loc m' m && okX κ loc k' k && okX κ loc v' v
   | none => false
 | .mxn isMax x y => match o.op with
   | .call { callee:=.builtin b,args:=⟨[x',y']⟩,.. } => decide (b = if isMax then .max else .min) && okX κ loc x' x && okX κ loc y' y
   | _ => false
 | .call _ f xs => match o.op with
   | .call { callee:=.value f',args,.. } => okX κ loc f' f && zwc κ loc args.toList xs
   | _ => false
 | .no _ => true
section
variable {P : Program} {κ : List Tmp} {loc : List (Option Tmp)} {nt : Nat} {g : G} {w : World} {r r' : R} {a : Act} {o : Go.Oper} {d : D} {next : Act → World → Prop} {Q : Exit → Act → World → Prop}
theorem zi7 (F : Fr κ loc nt g w r a) {x : Option Operand} {y : Option X} (h : zzO κ loc x y = true) : Opt g w r a x y:=by
 unfold zzO at h;split at h
 ·exact ⟨fun z b => (by cases b),fun _ => rfl⟩
 ·rename_i x y
  exact ⟨fun z b => (by injection b with b; subst b; exact ⟨x,rfl,F.get h⟩),fun c => (by cases c)⟩
 ·cases h
theorem zkX {t : TypeId} : ∀ {sz : Option Nat},zBz P t sz = true → match sz with
  | none => ziB P t = some false
  | some n => ziB P t = some true ∧ zgf P t = some n
 | none,h => by simpa [zBz] using h
 | some n,h => by simpa [zBz] using h
theorem ziZ {t : TypeId} {zero : List C} {fresh : List (Nat × Nat)} (h : zt0 P t zero fresh = true) : ∃ zs,zeroOf P t = some zs ∧ zdR zs zero = true ∧ zgV zs fresh = true:=by
 unfold zt0 at h;split at h
 ·rename_i zs a
  simp only [ya] at h;exact ⟨zs,a,h⟩
 ·cases h
theorem ztL {Cf : zL} (S : zen P Cf) (J : Rel g w r.st) (L : Low r.base r.lim r.st) (F : Fr κ loc nt g w r a) (hd : okD κ nt o.dst d = true) {x : Op} (p : zkj P κ loc o d x = true) {r1 : R} (h : zaF Cf r d x = some r1)
  (k : znO κ (zaH o.dst d :: loc) nt g w r r1 (a.put o.dst) next) : o.wp P a w next Q:=by
 have pure : ∀ {v : V},(∃ u,(execOp a.eval o).run P w = .ok (.value u) w ∧ ze g w r.st v u) → znO κ (zaH o.dst d :: loc) nt g w r (r.put d v) (a.put o.dst) next → o.wp P a w next Q:=fun ⟨u,q,B⟩ kk => zjA J L F hd q B kk
 have mapped : ∀ {x : Option V},x.map (r.put d) = some r1 → (∀ v,x = some v → ∃ u,(execOp a.eval o).run P w = .ok (.value u) w ∧ ze g w r.st v u) → o.wp P a w next Q:=fun {x} hx C => by
  rw [yb] at hx;obtain ⟨v,q,rfl⟩:=hx;exact pure (C v q) k
 cases x <;> simp only [zaF] at h <;> simp only [zkj] at p
 case mv x =>
  injection h with h;subst h;split at p
  ·rename_i y A
   exact pure ⟨_,zpO (.inl A),F.get p⟩ k
  ·rename_i y A
   exact pure ⟨_,zpO (.inr A),F.get p⟩ k
  ·cases p
 case pick c x y =>
  split at p
  ·rename_i c' I X A
   simp only [ya] at p;exact mapped h fun v C => zuK A (F.get p.1.1) (F.get p.1.2) (F.get p.2) C
  ·cases p
 case bin op x y =>
  split at p
  ·rename_i aB t I X yt A
   simp only [ya,decide_eq_true_eq] at p;obtain ⟨⟨rfl,q⟩,B⟩:=p;exact mapped h fun v C => zuy A (F.get q) (F.get B) C
  ·cases p
 case beq neg x y =>
  split at p
  ·rename_i op t I X ty A
   simp only [ya] at p;obtain ⟨⟨⟨q,B⟩,H⟩,E⟩:=p
   have U : (op = .eql ∧ neg = false) ∨ (op = .neq ∧ neg = true):=by
    cases op <;> simp_all
   split at B
   ·rename_i G
    exact mapped h fun v C => zx3 A U G (F.get H) (F.get E) C
   ·cases B
  ·cases p
 case eqa n neg x y =>
  split at p
  ·rename_i op t I X ty A
   simp only [ya,beq_iff_eq,Bool.not_eq_true'] at p;obtain ⟨⟨⟨⟨q,B⟩,D⟩,H⟩,E⟩:=p
   have U : (op = .eql ∧ neg = false) ∨ (op = .neq ∧ neg = true):=by
    cases op <;> simp_all
   exact mapped h fun v C => zws A U B D (F.get H) (F.get E) C
  ·cases p
 case un op x =>
  split at p
  ·rename_i aB t I A
   simp only [ya,decide_eq_true_eq] at p;obtain ⟨rfl,q⟩:=p;exact mapped h fun v C => zv8 A (F.get q) C
  ·cases p
 case conv kk x =>
  split at p
  ·rename_i s t I A
   simp only [ya] at p;obtain ⟨⟨q,B⟩,D⟩:=p;split at B
   ·rename_i k' G
    have : k' = kk:=(by simpa using B);subst this;exact mapped h fun v C => zvy A q G (F.get D) C
   ·cases B
  ·cases p
 case len x =>
  split at p
  ·rename_i I t A
   simp only [ya] at p;obtain ⟨q,B⟩:=p;split at q
   ·rename_i e G
    exact mapped h fun v C => zw7 A rfl rfl rfl G (F.get B) C
   ·cases q
  ·cases p
 case fa off x =>
  split at p
  ·rename_i t I i A
   simp only [ya] at p;obtain ⟨q,B⟩:=p;split at q
   ·rename_i fs G
    split at q
    ·rename_i f hf
     simp only [ya,beq_iff_eq] at q;obtain ⟨q,D⟩:=q;split at q
     ·rename_i n hs
      exact mapped h fun v C => zyO A G hf hs (by simpa using q) D (F.get B) C
     ·cases q
    ·cases q
   ·cases q
  ·cases p
 case ia sz x i =>
  split at p
  ·rename_i t I i' A
   simp only [ya] at p;obtain ⟨⟨q,B⟩,D⟩:=p;split at q
   ·rename_i e G
    exact mapped h fun v C => zzY A G (by simpa using q) (F.get B) (F.get D) C
   ·cases q
  ·cases p
 case iaa n sz x i =>
  split at p
  ·rename_i t I i' A
   simp only [ya] at p;obtain ⟨⟨q,B⟩,D⟩:=p;split at q
   ·rename_i n' e G
    simp only [ya,beq_iff_eq] at q;obtain ⟨rfl,q⟩:=q;exact mapped h fun v C => zxI A G q (F.get B) (F.get D) C
   ·cases q
  ·cases p
 case ld sz x =>
  split at p
  ·rename_i t I A
   simp only [ya] at p;exact mapped h fun v C => ztR J A (zkX p.1) (F.get p.2) C
  ·cases p
 case st sz x v =>
  split at p
  ·rename_i t I v' A
   simp only [ya,beq_iff_eq,decide_eq_true_eq] at p;obtain ⟨⟨⟨⟨q,B⟩,D⟩,H⟩,E⟩:=p;rw [yb] at h;obtain ⟨r2,h,rfl⟩:=h;exact zzd J L F A hd (by cases d <;> simp [zCR] at q ⊢) B D (F.get H) (F.get E) h k
  ·cases p
 case al zero fresh =>
  injection h with h;subst h;split at p
  ·rename_i t A
   obtain ⟨Z,q,B,D⟩:=ziZ p;exact zzQ J L F A hd q B D k
  ·cases p
 case box sz x =>
  split at p
  ·rename_i t I A
   simp only [ya,decide_eq_true_eq] at p;split at h
   ·rename_i W
    injection h with h;subst h;exact zxp J L F A hd p.1 (F.get p.2) W.1 W.2 k
   ·cases h
  ·cases p
 case bld zero parts fresh =>
  split at p
  ·rename_i t ps A
   simp only [ya] at p;obtain ⟨q,B⟩:=p;obtain ⟨Z,D,H,E⟩:=ziZ q;split at B
   ·rename_i place hp
    exact zwZ J L F A hd D H E hp B h k
   ·cases B
  ·cases p
 case bsl b sz zero parts =>
  split at p
  ·rename_i t len ps A
   simp only [ya,beq_iff_eq,decide_eq_true_eq] at p;obtain ⟨⟨⟨⟨q,B⟩,D⟩,H⟩,E⟩:=p;split at q
   ·rename_i e G
    simp only [ya,beq_iff_eq] at q;obtain ⟨q,N⟩:=q;split at N
    ·rename_i Z O
     simp only [ya,beq_iff_eq] at N;exact zwH J L F A hd G q B D H O N.1.1 N.1.2 N.2 E h k
    ·cases N
   ·cases q
  ·cases p
 case nl b sz =>
  split at p
  ·rename_i A
   exact zt5 J L F (.inl A) hd h k
  ·rename_i A
   exact zt5 J L F (.inr A) hd h k
  ·cases p
 case app sz s x =>
  split at p
  ·rename_i s' I t t' A
   simp only [ya,beq_iff_eq,decide_eq_true_eq] at p;obtain ⟨⟨⟨⟨rfl,q⟩,B⟩,D⟩,H⟩:=p;split at q
   ·rename_i e G
    simp only [ya] at q;obtain ⟨q,E⟩:=q;split at q
    ·rename_i i K
     split at E
     ·rename_i Z O
      simp only [ya,beq_iff_eq,decide_eq_true_eq] at q E;exact zvR J L F A rfl rfl rfl hd G K q.1 q.2 B O E (F.get D) (F.get H) h k
     ·cases E
    ·cases q
   ·cases q
  ·cases p
 case cpy sz x y =>
  split at p
  ·rename_i I X t t' A
   simp only [ya,decide_eq_true_eq] at p;obtain ⟨⟨⟨q,B⟩,D⟩,H⟩:=p;split at q
   ·rename_i e G
    exact zxR J L F A rfl rfl rfl hd G (by simpa using q) B (F.get D) (F.get H) h k
   ·cases q
  ·cases p
 case mks zero fresh n =>
  split at p
  ·rename_i t l c A
   simp only [ya,beq_iff_eq] at p;obtain ⟨⟨rfl,q⟩,B⟩:=p;split at q
   ·rename_i e G
    split at q
    ·rename_i i K
     simp only [ya,decide_eq_true_eq] at q;obtain ⟨⟨D,H⟩,E⟩:=q;split at E
     ·rename_i Z O
      simp only [ya,beq_iff_eq] at E;obtain ⟨⟨N,h7⟩,h8⟩:=E;refine zxh J L F A hd G K D rfl H O N h7 (fun j hj => ?_) (F.get B) h k;subst hj;simp only [zgV,Bool.and_true] at h8;split at h8
      ·assumption
      ·cases h8
     ·cases E
    ·cases q
   ·cases q
  ·cases p
 case mkc sz n =>
  split at p
  ·rename_i t kl x A
   simp only [ya] at p;obtain ⟨q,B⟩:=p;split at q
   ·rename_i e G
    split at q
    ·rename_i i K
     simp only [ya,decide_eq_true_eq,beq_iff_eq] at q;obtain ⟨⟨D,H⟩,E⟩:=q;obtain ⟨z,O⟩:=Option.isSome_iff_exists.1 E;exact zx7 J L F A hd G K D H O (F.get B) h k
    ·cases q
   ·cases q
  ·cases p
 case slc sz x lo K mx =>
  split at p
  ·rename_i t I aD aG aE A
   simp only [ya] at p;obtain ⟨⟨⟨⟨q,B⟩,D⟩,H⟩,E⟩:=p;split at q
   ·rename_i e G
    have M : zyU r K mx = true:=by
     by_cases M : zyU r K mx = true
     ·exact M
     ·rw [if_neg M] at h
      cases h
    rw [if_pos M] at h;refine mapped h fun v C => zwn A G (by simpa using q) (zi7 F D) (zi7 F H) ?_ (F.get B) C;split at E
    ·exact .inl ⟨rfl,rfl⟩
    ·rename_i m m'
     simp only [ya] at E;obtain ⟨E,N⟩:=E;refine .inr ⟨rfl,E,?_⟩
     cases K with
     | none => cases E
     | some hx =>
       obtain ⟨z',e1,e2⟩:=(zi7 F H).1 hx rfl;have e3:=F.get N;simp only [zyU] at M;unfold zsF at M;split at M
       ·rename_i q1 q2
        simp only [ya,decide_eq_true_eq] at M;rw [q1] at e3;rw [q2] at e2;rw [e1,yk,yk,(zH e3).1,(zH e2).1,M.1,M.2]
       ·cases M
    ·cases E
   ·cases q
  ·cases p
 case ext x i =>
  split at p
  ·rename_i I i' A
   simp only [ya,beq_iff_eq] at p;obtain ⟨rfl,q⟩:=p;exact mapped h fun v C => zxu A (F.get q) C
  ·cases p
 case fld off sz x =>
  split at p
  ·rename_i t I i A
   simp only [ya] at p;obtain ⟨q,B⟩:=p;split at q
   ·rename_i fs G
    split at q
    ·rename_i f hf
     simp only [ya,beq_iff_eq] at q;exact mapped h fun v C => zxo A G hf q.1 (zkX q.2) (F.get B) C
    ·cases q
   ·cases q
  ·cases p
 case nil x =>
  split at p
  ·rename_i I A
   exact mapped h fun v C => zvM A (F.get p) C
  ·cases p
 case mkf f first caps =>
  injection h with h;subst h;split at p
  ·rename_i f' Y aA A
   simp only [ya,beq_iff_eq] at p;obtain ⟨⟨rfl,q⟩,B⟩:=p;exact pure (zv6 F A q B) k
  ·cases p
 case mkm =>
  injection h with h;subst h;split at p
  ·rename_i t A
   exact zw6 J L F A hd k
  ·cases p
 case lk zero ok m kk =>
  split at p
  ·rename_i t m' k' aF A
   simp only [ya,beq_iff_eq] at p;obtain ⟨⟨⟨rfl,q⟩,B⟩,D⟩:=p;split at q
   ·rename_i key elem G
    simp only [ya] at q;obtain ⟨q,H⟩:=q;split at q
    ·rename_i hk
     split at H
     ·rename_i i K
      split at H
      ·rename_i z O
       exact mapped h fun v C => zy7 J A G hk K O H (F.get B) (F.get D) C
      ·cases H
     ·cases H
    ·cases q
   ·cases q
  ·cases p
 case mu m kk v =>
  split at p
  ·rename_i t m' k' v' A
   simp only [ya] at p;obtain ⟨⟨⟨⟨q,B⟩,D⟩,H⟩,E⟩:=p;split at B
   ·rename_i key elem G
    split at B
    ·rename_i hk
     rw [yb] at h;obtain ⟨r2,h,rfl⟩:=h;exact zzU J L F (zwN A) hd (by cases d <;> simp [zCR] at q ⊢) G hk (F.get D) (F.get H) (F.get E) h k
    ·cases B
   ·cases B
  ·cases p
 case mxn isMax x y =>
  split at p
  ·rename_i b I X aC A
   simp only [ya,decide_eq_true_eq] at p;obtain ⟨⟨q,B⟩,D⟩:=p;exact mapped h fun v C => zxW A rfl q rfl (F.get B) (F.get D) C
  ·cases p
 case call m f xs =>
  split at p
  ·rename_i f' args aC A
   simp only [ya] at p;exact zvq S J L F A rfl hd p.1 p.2 h k
  ·cases p
 case no => exact absurd h (by simp [zaF])
end
end Go.A

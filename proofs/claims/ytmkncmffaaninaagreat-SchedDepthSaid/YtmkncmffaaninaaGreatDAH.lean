/- A part of the proof of SchedDepth. Conditions: none. -/
import Derived.Test.YtmkncmffaaninaaGreatDAG
import Derived.Laws.BytesArg
import Derived.Laws.Strings
set_option linter.unusedVariables false
set_option linter.unusedSimpArgs false
set_option linter.unusedSectionVars false
open Option renaming map_eq_some_iff → ya,bind_eq_some_iff → yd
open List renaming eq_nil_of_length_eq_zero → yb,getElem?_append_left → yc,getElem?_map → ye,getElem?_append_right → yh,mem_iff_getElem? → yi,getElem?_take → yk,getElem?_drop → yl,map_cons → ym,map_nil → yo
open Array renaming getElem?_eq_some_iff → yf
open Nat renaming add_sub_cancel → yg,le_refl → yj
open Bool renaming and_eq_true → yn
namespace Go.A
section
variable {g : G} {w : World} {σ : zd} {n : Nat}
theorem zm8 (R : Rel g w σ) {N' : zf1} (hN : ∀ b o,g.N b o → N' b o) {id ver lo n : Nat} (hb : ∀ o,N' (g.ρ id) o ∨ ¬ (∃ sz es,σ[id]? = some (.cells ver sz es) ∧ es ≠ [])) {xs : List (List Fz)} {u : Value} (h : (σ[id]?).bind (Ob.frz ver lo n) = some xs) (hv : zf g w σ (.one (.own id ver lo n)) u) : rep w N' (.sl xs) u:=by
 rw [yd] at h
 obtain ⟨ob,h1,h2⟩:=h
 unfold Ob.frz at h2
 split at h2
 ·rename_i ver' sz es
  split at h2
  ·rename_i hver
   subst hver
   obtain ⟨a,c,e1,e2,e3,e4⟩:=zfY hv h1
   obtain ⟨hl,hg⟩:=zd0 h2
   simp only [rep]
   by_cases hes : es = []
   ·subst hes
    have:=e3 rfl
    have hn : n = 0:=by omega
    subst hn
    have hx : xs = []:=yb (by rw [hl]; simp)
    subst hx
    exact ⟨a,c,sz,e1,by simp,by simp only [zbO],.inl rfl⟩
   ·obtain ⟨f1,f2,arr,t,f3,f4⟩:=e4 fun h => hes (yb h)
    obtain ⟨_,_,arr',t',m1,m2,m3⟩:=R.ob id _ h1 hes
    have hxn : xs.length = n:=by rw [hl]; simp; omega
    have hsub : ∀ i e,((es.drop lo).take n)[i]? = some e → es[lo + i]? = some e:=fun i e hi => by
     rw [yk] at hi
     split at hi
     ·rwa [yl] at hi
     ·cases hi
    refine ⟨a,c,sz,by rw [hxn]; exact e1,by omega,zdm fun e he => ?_,?_⟩
    ·obtain ⟨i,hi⟩:=yi.1 he
     obtain ⟨e',k1,k2⟩:=hg i e hi
     rw [(zet k2).1]
     exact (m3 _ e' (hsub i e' k1)).1
    ·rcases Nat.eq_zero_or_pos n with h0 | h0
     ·exact .inl (yb (by omega))
     ·refine .inr ⟨g.ρ id,lo * sz,f2 (by omega),zey fun i e hi => zf6 fun j x hj => ?_⟩
      obtain ⟨e',k1,k2⟩:=hg i e hi
      obtain ⟨cc,k3,k4⟩:=(zet k2).2 j x hj
      obtain ⟨u',q1,q2,q3⟩:=(m3 _ e' (hsub i e' k1)).2 j cc k3
      refine ⟨u',(hb _).resolve_right fun hx => hx ⟨sz,es,h1,hes⟩,?_,zb5 (fun b o h => ⟨hN b o h,rfl⟩) x u' (zfG k4 q2)⟩
      rw [zgX m1,show lo * sz + i * sz + j = (lo + i) * sz + j from by rw [Nat.add_mul]]
      exact q1
  ·cases h2
 ·cases h2
def G.inn (g : G) (lent : Bool) (w : World) : G:=⟨fun _ => 0,fun _ _ => undef,fun _ => .no,fun b o => g.N b o ∨ (lent = true ∧ b < w.heap.size)⟩
theorem zyf (R : Rel g w σ) (lent : Bool) : Rel (g.inn lent w) w []:=⟨fun b o h => h.elim (R.nb b o) fun h => h.2,fun id o h => by simp at h⟩
theorem zsV (lent : Bool) : zgM w w g.N (g.inn lent w).N:=fun _ _ h => ⟨.inl h,rfl⟩
theorem zmR {N' : zf1} (H : zgM w w g.N N') {g' : G} {σ' : zd} (hg : g'.N = N') : ∀ {cs : List C} {xs : List Fz} {us : List Value},zdl cs = some xs → zv g w σ cs us → zv g' w σ' (xs.map C.f) us
 | [],xs,us,h,hr => by
   simp only [zdl,Option.some.injEq] at h
   subst h
   simpa only [yo,zv] using hr
 | c :: cs,xs,us,h,hr => by
   simp only [zdl] at h
   obtain ⟨y,z,h1,h2,rfl⟩:=zes h
   simp only [zv] at hr
   obtain ⟨v,vs,rfl,k1,k2⟩:=hr
   simp only [ym,zv]
   exact ⟨v,vs,rfl,by simp only [zw]; rw [hg]; exact zb5 H y v (zfG h1 k1),zmR H hg h2 k2⟩
theorem zw4 (R : Rel g w σ) {lent : Bool} {v v' : V} {u : Value} (h : zCY σ v = some v') (hl : zt2 v = true → lent = true) (hv : zf g w σ v u) : zf (g.inn lent w) w [] v' u:=by
 unfold zCY at h
 split at h
 ·rename_i id ver lo n
  rw [ya] at h
  obtain ⟨xs,h,rfl⟩:=h
  have hlent:=hl rfl
  simp only [vsl,zf,zw]
  refine zm8 R (fun b o h => .inl h) (fun o => ?_) h hv
  by_cases hx : ∃ sz es,σ[id]? = some (.cells ver sz es) ∧ es ≠ []
  ·obtain ⟨sz,es,k1,k2⟩:=hx
   obtain ⟨_,_,arr,t,k3,_⟩:=R.ob id _ k1 k2
   exact .inl (.inr ⟨hlent,(yf.1 k3).1⟩)
  ·exact .inr hx
 ·injection h with h
  subst h
  simp only [zf,zw] at hv ⊢
  obtain ⟨fs,cs,h1,h2,h3⟩:=hv
  exact ⟨fs,cs,h1,by simpa only [zv] using h2,by simpa only [zv] using h3⟩
 ·rw [ya] at h
  obtain ⟨x,h,rfl⟩:=h
  simp only [zf] at hv
  simp only [vf,zf,zw]
  exact zb5 (zsV lent) x u (zfG h hv)
 ·rw [ya] at h
  obtain ⟨xs,h,rfl⟩:=h
  simp only [zf] at hv
  obtain ⟨us,h1,h2⟩:=hv
  simp only [zAq,zf]
  exact ⟨us,h1,zmR (zsV lent) rfl h h2⟩
 ·cases h
theorem zlb (R : Rel g w σ) {lent : Bool} : ∀ {vs vs' : List V} {us : List Value},zpK σ vs = some vs' → (vs.any zt2 = true → lent = true) → zz g w σ vs us → zz (g.inn lent w) w [] vs' us
 | [],vs',us,h,_,hv => by
   simp only [zpK,Option.some.injEq] at h
   subst h
   simpa only [zz] using hv
 | v :: vs,vs',us,h,hl,hv => by
   simp only [zpK] at h
   obtain ⟨y,z,h1,h2,rfl⟩:=zes h
   simp only [zz] at hv ⊢
   obtain ⟨x,xs,rfl,k1,k2⟩:=hv
   simp only [List.any_cons,Bool.or_eq_true] at hl
   exact ⟨x,xs,rfl,zw4 R h1 (fun h => hl (.inl h)) k1,zlb R h2 (fun h => hl (.inr h)) k2⟩
def Ow.shift (n : Nat) : Ow → Ow
 | .no => .no
 | .ob id => .ob (id + n)
 | .tk t k => .tk (t + n) k
def G.out (g : G) (w : World) (n : Nat) (keep : Prop) (g' : G) : G where
 ρ:=fun id => if id < n then g.ρ id else g'.ρ (id - n)
 tv:=fun t k => if t < n then g.tv t k else g'.tv (t - n) k
 ow:=fun b => if b < w.heap.size then g.ow b else (g'.ow b).shift n
 N:=fun b o => g.N b o ∨ (w.heap.size ≤ b ∧ keep ∧ g'.N b o)
section
variable {lent : Bool} {keep : Prop} {g' : G} {w' : World} {σ' : zd}
theorem out_ρ_old {id : Nat} (h : id < n) : (g.out w n keep g').ρ id = g.ρ id:=by simp [G.out,h]
theorem out_ρ_new {id : Nat} : (g.out w n keep g').ρ (id + n) = g'.ρ id:=by
 show (if id + n < n then _ else g'.ρ (id + n - n)) = _
 rw [if_neg (by omega),yg]
theorem zqr {t k : Nat} (h : t < n) : (g.out w n keep g').tv t k = g.tv t k:=by simp [G.out,h]
theorem zqU {t k : Nat} : (g.out w n keep g').tv (t + n) k = g'.tv t k:=by
 show (if t + n < n then _ else g'.tv (t + n - n) k) = _
 rw [if_neg (by omega),yg]
theorem zqx {b : Nat} (h : b < w.heap.size) : (g.out w n keep g').ow b = g.ow b:=by simp [G.out,h]
theorem znd {b : Nat} (h : ¬ b < w.heap.size) : (g.out w n keep g').ow b = (g'.ow b).shift n:=by simp [G.out,h]
theorem zun (R : Rel g w σ) (H : Ext (g.inn lent w) w [] g' w' σ') (os : List Ob) : Ext g w σ (g.out w σ.length keep g') w' (σ ++ os) where
 os:=H.os
 tape:=H.tape
 output:=H.output
 size:=H.size
 keeps:=fun b o h => ⟨.inl h,by
  unfold World.cell?
  rw [H.frame b (R.nb b o h) rfl]⟩
 len:=by simp
 shape:=fun id ver sz len h => by
  obtain ⟨es,h1,_⟩:=zaR h
  have hlt:=zb h1
  refine .inl ⟨by unfold shapeOf; rw [yc hlt]; exact h,out_ρ_old hlt,fun _ arr t ha => ⟨arr,?_,rfl⟩⟩
  rw [H.frame _ (yf.1 ha).1 rfl]
  exact ha
 map:=fun id es h => ⟨out_ρ_old (zb h),es,by rw [yc (zb h)]; exact h⟩
 tok:=fun t k m h => by
  obtain ⟨sz,fr,h1,h2⟩:=zcX h
  exact ⟨m,zdD (by rw [yc (zb h1)]; exact h1) h2,yj _,fun _ => zqr (zb h1)⟩
 tsz:=fun t sz h => by
  obtain ⟨fr,h1⟩:=zez h
  exact zce (fr:=fr) (by rw [yc (zb h1)]; exact h1)
 ow:=fun b hb => zqx hb
 new:=fun b o h hb _ => h.elim id fun h => by omega
 frame:=fun b hb _ => H.frame b hb rfl
theorem zlD (hk : keep) (hlent : lent = false) (H : Ext (g.inn lent w) w [] g' w' σ') : zgM w' w' g'.N (g.out w n keep g').N:=fun b o h => ⟨by
 by_cases hb : b < w.heap.size
 ·have:=H.new b o h hb rfl
  rcases this with h1 | h1
  ·exact .inl h1
  ·rw [hlent] at h1; cases h1.1
 ·exact .inr ⟨by omega,hk,h⟩,rfl⟩
theorem zlQ (os : List Ob) {i : Nat} {o : Ob} (h : σ'[i]? = some o) : (σ ++ σ'.map (Ob.shift σ.length))[i + σ.length]? = some (o.shift σ.length):=by
 rw [yh (by omega),yg,ye,h]
 rfl
theorem zpa {id ver sz len : Nat} (h : shapeOf σ' id = some (ver,sz,len)) : shapeOf (σ ++ σ'.map (Ob.shift σ.length)) (id + σ.length) = some (ver,sz,len):=by
 obtain ⟨es,h1,h2⟩:=zaR h
 rw [zn (zlQ [] h1)]
 simp [h2]
theorem zAz {t k m : Nat} (h : zlw σ' t k = some m) : zlw (σ ++ σ'.map (Ob.shift σ.length)) (t + σ.length) k = some m:=by
 obtain ⟨sz,fr,h1,h2⟩:=zcX h
 exact zdD (zlQ [] h1) h2
theorem zzh {t sz : Nat} (h : znT σ' t = some sz) : znT (σ ++ σ'.map (Ob.shift σ.length)) (t + σ.length) = some sz:=by
 obtain ⟨fr,h1⟩:=zez h
 exact zce (zlQ [] h1)
mutual
theorem zmX (hk : keep) (hlent : lent = false) (H : Ext (g.inn lent w) w [] g' w' σ') : ∀ (c : C) (u : Value),zw g' w' σ' c u → zw (g.out w σ.length keep g') w' (σ ++ σ'.map (Ob.shift σ.length)) (c.shift σ.length) u
 | .f x,u,h => by
   simp only [C.shift,zw] at h ⊢
   exact zb5 (zlD hk hlent H) x u h
 | .ap t k xs,u,h => by
   simp only [C.shift,zw] at h ⊢
   obtain ⟨h1,m,h2,h3,h4,sz,h5,h6⟩:=h
   exact ⟨zb5 (zlD hk hlent H) _ u h1,m,zAz h2,h3,by rw [zqU]; exact h4,sz,zzh h5,h6⟩
 | .ptr id ver i off,u,h => by
   simp only [C.shift,zw] at h ⊢
   obtain ⟨v0,sz,len,h1,h2⟩:=h
   exact ⟨v0,sz,len,zpa h1,by rw [out_ρ_new]; exact h2⟩
 | .fp cs off,u,h => by
   simp only [C.shift,zw] at h ⊢
   obtain ⟨b,o,h1,h2⟩:=h
   exact ⟨b,o,h1,zfe (zlD hk hlent H) cs b o h2⟩
 | .own id ver lo m,u,h => by
   simp only [C.shift,zw] at h ⊢
   obtain ⟨v0,sz,len,h1,h2⟩:=h
   exact ⟨v0,sz,len,zpa h1,by rw [out_ρ_new]; exact h2⟩
 | .map id,u,h => by
   simp only [C.shift,zw] at h ⊢
   obtain ⟨⟨es,h1⟩,h2⟩:=h
   exact ⟨⟨_,zlQ [] h1⟩,by rw [out_ρ_new]; exact h2⟩
 | .fn f a b,u,h => by
   simp only [C.shift,zw] at h ⊢
   obtain ⟨fs,cs,h1,h2,h3⟩:=h
   exact ⟨fs,cs,h1,zis hk hlent H a _ h2,zis hk hlent H b _ h3⟩
 | .un,_,_ => by simp only [C.shift,zw]
theorem zis (hk : keep) (hlent : lent = false) (H : Ext (g.inn lent w) w [] g' w' σ') : ∀ (cs : List C) (us : List Value),zv g' w' σ' cs us → zv (g.out w σ.length keep g') w' (σ ++ σ'.map (Ob.shift σ.length)) (C.shifts σ.length cs) us
 | [],us,h => by simpa only [C.shifts,zv] using h
 | c :: cs,us,h => by
   simp only [C.shifts,zv] at h ⊢
   obtain ⟨v,vs,h1,h2,h3⟩:=h
   exact ⟨v,vs,h1,zmX hk hlent H c v h2,zis hk hlent H cs vs h3⟩
end
mutual
theorem zm5 (hk : keep) (hlent : lent = false) (H : Ext (g.inn lent w) w [] g' w' σ') : ∀ (c : V) (u : Value),zf g' w' σ' c u → zf (g.out w σ.length keep g') w' (σ ++ σ'.map (Ob.shift σ.length)) (c.shift σ.length) u
 | .one c,u,h => by
   simp only [V.shift,zf] at h ⊢
   exact zmX hk hlent H c u h
 | .agg cs,u,h => by
   simp only [V.shift,zf] at h ⊢
   obtain ⟨us,h1,h2⟩:=h
   exact ⟨us,h1,zis hk hlent H cs _ h2⟩
 | .tup vs,u,h => by
   simp only [V.shift,zf] at h ⊢
   obtain ⟨us,h1,h2⟩:=h
   exact ⟨us,h1,zoH hk hlent H vs _ h2⟩
theorem zoH (hk : keep) (hlent : lent = false) (H : Ext (g.inn lent w) w [] g' w' σ') : ∀ (vs : List V) (us : List Value),zz g' w' σ' vs us → zz (g.out w σ.length keep g') w' (σ ++ σ'.map (Ob.shift σ.length)) (V.shifts σ.length vs) us
 | [],us,h => by simpa only [V.shifts,zz] using h
 | c :: cs,us,h => by
   simp only [V.shifts,zz] at h ⊢
   obtain ⟨v,vs,h1,h2,h3⟩:=h
   exact ⟨v,vs,h1,zm5 hk hlent H c v h2,zoH hk hlent H cs vs h3⟩
end
theorem zqM {n : Nat} : ∀ {cs : List C} {j : Nat} {c : C},(C.shifts n cs)[j]? = some c → ∃ c',cs[j]? = some c' ∧ c = c'.shift n
 | [],j,c,h => by simp [C.shifts] at h
 | x :: cs,j,c,h => by
   cases j with
   | zero => simp [C.shifts] at h; exact ⟨x,by simp,h.symm⟩
   | succ j => simpa using zqM (cs:=cs) (by simpa [C.shifts] using h)
theorem zlF {n : Nat} : ∀ {cs : List C},(C.shifts n cs).length = cs.length
 | [] => rfl
 | x :: cs => by simp [C.shifts,zlF (cs:=cs)]
theorem zp9 (hk : keep) (hlent : lent = false) (H : Ext (g.inn lent w) w [] g' w' σ') : ∀ {es : List (Int × V)} {zbl : List MapEntry},zpX g' w' σ' es zbl → zpX (g.out w σ.length keep g') w' (σ ++ σ'.map (Ob.shift σ.length)) (es.map fun e => (e.1,e.2.shift σ.length)) zbl
 | [],_,h => h
 | x :: xs,_,h => by
   obtain ⟨e,rest,k1,k2,k3,k4⟩:=h
   exact ⟨e,rest,k1,k2,zm5 hk hlent H _ _ k3,zp9 hk hlent H k4⟩
theorem zph (R : Rel g w σ) (H : Ext (g.inn lent w) w [] g' w' σ') (R' : Rel g' w' σ') (os : List Ob) {id : Nat} {o : Ob} (ho : σ[id]? = some o) : zAt (g.out w σ.length keep g') w' (σ ++ os) id o :=
 zcV (zun R H os) (out_ρ_old (zb ho)) (fun _ => zqr (zb ho)) (fun b hb _ => ⟨H.frame b hb rfl,zqx hb,fun o h => h.elim (fun h => h) fun h => by omega⟩) (R.ob id o ho)
theorem zqg (R : Rel g w σ) (H : Ext (g.inn lent w) w [] g' w' σ') (R' : Rel g' w' σ') : ∀ b o,(g.out w σ.length keep g').N b o → b < w'.heap.size:=fun b o h =>
 h.elim (fun h => Nat.lt_of_lt_of_le (R.nb b o h) H.size) fun h => R'.nb b o h.2.2
theorem zuy (R : Rel g w σ) (H : Ext (g.inn lent w) w [] g' w' []) (R' : Rel g' w' []) : Rel (g.out w σ.length keep g') w' σ :=
 ⟨zqg R H R',fun id o ho => by simpa using zph (keep:=keep) R H R' [] ho⟩
theorem zCK (R : Rel g w σ) (hk : keep) (hlent : lent = false) (H : Ext (g.inn lent w) w [] g' w' σ') (R' : Rel g' w' σ') : Rel (g.out w σ.length keep g') w' (σ ++ σ'.map (Ob.shift σ.length)):=by
 refine ⟨zqg R H R',fun id o ho => ?_⟩
 by_cases hid : id < σ.length
 ·rw [yc hid] at ho
  exact zph R H R' _ ho
 ·rw [yh (by omega),ye,ya] at ho
  obtain ⟨o',ho',rfl⟩:=ho
  obtain ⟨j,rfl⟩ : ∃ j,id = j + σ.length:=⟨id - σ.length,by omega⟩
  rw [yg] at ho'
  have hor:=R'.ob j o' ho'
  have hbig : ∀ b,g'.ow b ≠ .no → ¬ b < w.heap.size:=fun b hne hb => hne (H.ow b hb)
  have hno : ∀ b,¬ b < w.heap.size → (∀ o,¬ g'.N b o) → ∀ o,¬ (g.out w σ.length keep g').N b o:=fun b hb hN o h => by
   rcases h with h | h
   ·exact hb (R.nb b o h)
   ·exact hN o h.2.2
  cases o' with
  | cells ver sz es =>
    intro hne
    have hne' : es ≠ []:=fun h => hne (by rw [h]; rfl)
    obtain ⟨h1,h2,arr,t,h3,h4,h5⟩:=hor hne'
    have hb:=hbig _ (by rw [h1]; simp)
    rw [out_ρ_new]
    refine ⟨by rw [znd hb,h1]; rfl,hno _ hb h2,arr,t,h3,by simpa using h4,fun i e hi => ?_⟩
    rw [ye,ya] at hi
    obtain ⟨e',hi,rfl⟩:=hi
    refine ⟨by rw [zlF]; exact (h5 i e' hi).1,fun j c hc => ?_⟩
    obtain ⟨c',hc',rfl⟩:=zqM hc
    obtain ⟨u,k1,k2,k3⟩:=(h5 i e' hi).2 j c' hc'
    exact ⟨u,k1,zmX hk hlent H c' u k2,k3⟩
  | mp es =>
    obtain ⟨h1,h2,zbl,clock,h3,h4⟩:=hor
    have hb:=hbig _ (by rw [h1]; simp)
    show _ ∧ _
    rw [out_ρ_new]
    exact ⟨by rw [znd hb,h1]; rfl,hno _ hb h2,zbl,clock,h3,zn4 h4 (fun e => (e.1,e.2.shift σ.length)) (fun _ => rfl) fun es' _ h => zp9 hk hlent H h⟩
  | tok sz fr =>
    intro k m hm
    rw [zqU]
    rcases hor k m hm with h | ⟨b,o,c,arr,t,h1,h2,h3,h4,h5,h6,h7⟩
    ·exact .inl h
    ·have hb:=hbig _ (by rw [h4]; simp)
     refine .inr ⟨b,o,c,arr,t,h1,h2,h3,by rw [znd hb,h4]; rfl,h5,h6,fun o' ho' => ?_⟩
     rcases ho' with ho' | ho'
     ·exact absurd (R.nb _ _ ho') hb
     ·exact h7 o' ho'.2.2
mutual
theorem ztv {w1 : World} {σ2 : zd} {g1 g2 : G} (hk : zgM w1 w1 g1.N g2.N) : ∀ (c : C) (u : Value),zw g1 w1 [] c u → zw g2 w1 σ2 c u
 | .f x,u,h => by simp only [zw] at h ⊢; exact zb5 hk x u h
 | .ap t k xs,u,h => by have:=zmB _ u h; simp [C.lt] at this
 | .ptr id ver i off,u,h => by have:=zmB _ u h; simp [C.lt] at this
 | .fp cs off,u,h => by
   simp only [zw] at h ⊢
   obtain ⟨b,o,h1,h2⟩:=h
   exact ⟨b,o,h1,zfe hk cs b o h2⟩
 | .own id ver lo m,u,h => by have:=zmB _ u h; simp [C.lt] at this
 | .map id,u,h => by have:=zmB _ u h; simp [C.lt] at this
 | .fn f a b,u,h => by
   simp only [zw] at h ⊢
   obtain ⟨fs,cs,h1,h2,h3⟩:=h
   exact ⟨fs,cs,h1,zj5 hk a _ h2,zj5 hk b _ h3⟩
 | .un,_,_ => by simp only [zw]
theorem zj5 {w1 : World} {σ2 : zd} {g1 g2 : G} (hk : zgM w1 w1 g1.N g2.N) : ∀ (cs : List C) (us : List Value),zv g1 w1 [] cs us → zv g2 w1 σ2 cs us
 | [],us,h => by simpa only [zv] using h
 | c :: cs,us,h => by
   simp only [zv] at h ⊢
   obtain ⟨v,vs,h1,h2,h3⟩:=h
   exact ⟨v,vs,h1,ztv hk c v h2,zj5 hk cs vs h3⟩
end
mutual
theorem ztj {w1 : World} {σ2 : zd} {g1 g2 : G} (hk : zgM w1 w1 g1.N g2.N) : ∀ (c : V) (u : Value),zf g1 w1 [] c u → zf g2 w1 σ2 c u
 | .one c,u,h => by simp only [zf] at h ⊢; exact ztv hk c u h
 | .agg cs,u,h => by
   simp only [zf] at h ⊢
   obtain ⟨us,h1,h2⟩:=h
   exact ⟨us,h1,zj5 hk cs _ h2⟩
 | .tup vs,u,h => by
   simp only [zf] at h ⊢
   obtain ⟨us,h1,h2⟩:=h
   exact ⟨us,h1,zqe hk vs _ h2⟩
theorem zqe {w1 : World} {σ2 : zd} {g1 g2 : G} (hk : zgM w1 w1 g1.N g2.N) : ∀ (vs : List V) (us : List Value),zz g1 w1 [] vs us → zz g2 w1 σ2 vs us
 | [],us,h => by simpa only [zz] using h
 | c :: cs,us,h => by
   simp only [zz] at h ⊢
   obtain ⟨v,vs,h1,h2,h3⟩:=h
   exact ⟨v,vs,h1,ztj hk c v h2,zqe hk cs vs h3⟩
end
theorem zpb {w1 w2 : World} {σ1 σ2 : zd} {g1 g2 : G} : ∀ {cs : List C} {us : List Value},(cs.all fun c => match c with
  | .f (.lit _) => true
  | _ => false) = true → zv g1 w1 σ1 cs us → zv g2 w2 σ2 cs us
 | [],us,_,h => by simpa only [zv] using h
 | c :: cs,us,hp,h => by
   simp only [List.all_cons,yn] at hp
   simp only [zv] at h ⊢
   obtain ⟨v,vs,h1,h2,h3⟩:=h
   refine ⟨v,vs,h1,?_,zpb hp.2 h3⟩
   have hp1:=hp.1
   split at hp1
   ·simpa only [zw,rep] using h2
   ·cases hp1
mutual
theorem zqs {w1 w2 : World} {σ1 σ2 : zd} {g1 g2 : G} : ∀ (c : V) (u : Value),c.plain = true → zf g1 w1 σ1 c u → zf g2 w2 σ2 c u
 | .one c,u,hp,h => by
   cases c with
   | f x =>
     cases x with
     | lit v => simpa only [zf,zw,rep] using h
     | sl xs => simp [V.plain] at hp
   | _ => simp [V.plain] at hp
 | .agg cs,u,hp,h => by
   simp only [V.plain] at hp
   simp only [zf] at h ⊢
   obtain ⟨us,h1,h2⟩:=h
   exact ⟨us,h1,zpb hp h2⟩
 | .tup vs,u,hp,h => by
   simp only [V.plain] at hp
   simp only [zf] at h ⊢
   obtain ⟨us,h1,h2⟩:=h
   exact ⟨us,h1,zoK vs _ hp h2⟩
theorem zoK {w1 w2 : World} {σ1 σ2 : zd} {g1 g2 : G} : ∀ (vs : List V) (us : List Value),V.plains vs = true → zz g1 w1 σ1 vs us → zz g2 w2 σ2 vs us
 | [],us,_,h => by simpa only [zz] using h
 | c :: cs,us,hp,h => by
   simp only [V.plains,yn] at hp
   simp only [zz] at h ⊢
   obtain ⟨v,vs,h1,h2,h3⟩:=h
   exact ⟨v,vs,h1,zqs c v hp.1 h2,zoK cs vs hp.2 h3⟩
end
end
end
end Go.A
namespace Go.A
def Enters (P : Program) (f : Nat) : Prop := ∃ fn c, P.funcs[f]? = some fn ∧ (fn.name == "runtime.NumGoroutine") = false ∧ fn.body = some c
def zgQ (P : Program) (C : zad) : Prop:=∀ (f : Nat) (args : List V) (σ : zd) (v : V) (σ' : zd),C f args σ = some (v,σ') →
 Enters P f ∧ ∀ (g : G) (w : World) (us : List Value),Rel g w σ → zz g w σ args us → Calls P f us.toArray w fun e w' => ∃ u g',e = .returned u ∧ zf g' w' σ' v u ∧ Rel g' w' σ' ∧ Ext g w σ g' w' σ'
section
variable {P : Program} {κ : List Tmp} {loc : List (Option Tmp)} {nt : Nat} {g : G} {w : World} {r r' : R} {a : Act} {o : Go.Oper} {d : D} {next : Act → World → Prop} {Q : Exit → Act → World → Prop}
theorem zjx {σ : zd} : ∀ {vs vs' : List V} {us us' : List Value},zz g w σ vs us → zz g w σ vs' us' → zz g w σ (vs ++ vs') (us ++ us')
 | [],vs',us,us',h,h' => by
   simp only [zz] at h
   subst h
   simpa using h'
 | v :: vs,vs',us,us',h,h' => by
   simp only [zz,List.cons_append] at h ⊢
   obtain ⟨x,xs,rfl,h1,h2⟩:=h
   exact ⟨x,xs ++ us',rfl,h1,zjx h2 h'⟩
theorem zpx {σ : zd} : ∀ {cs : List C} {us : List Value},zv g w σ cs us → zz g w σ (cs.map V.one) us
 | [],us,h => by simpa only [zv,zz,yo] using h
 | c :: cs,us,h => by
   simp only [zv] at h
   obtain ⟨v,vs,rfl,h1,h2⟩:=h
   simp only [ym,zz]
   exact ⟨v,vs,rfl,by simp only [zf]; exact h1,zpx h2⟩
theorem ztO {f : Nat} (h : Enters P f) (args : Array Value) : (callFunc f args).run P w = .ok (.enter f args) w:=by
 obtain ⟨fn,c,h1,h2,h3⟩:=h
 have h2' : ¬ fn.name = "runtime.NumGoroutine" := by simpa using h2
 simp [callFunc,h1,h2',h3]
theorem zmT {ct : Go.Call} {fv : Operand} (ho : o.op = .call ct) (hcal : ct.callee = .value fv) {f : Nat} {fs cs : Array Value} (hf : a.eval fv = .func (.func f) fs cs) (he : Enters P f) :
  (execOp a.eval o).run P w = .ok (.enter f (fs ++ ct.args.map a.eval ++ cs)) w:=by
 unfold execOp
 simp only [ho,resolve,hcal,hf,Deferred.ofValue,invoke,Sem.run_bind,Sem.run_pure,Result.andThen_ok,ztO he]
theorem zsg {f : Nat} {args : Array Value} (h : (execOp a.eval o).run P w = .ok (.enter f args) w) {R : Ending → World → Prop} (hc : Calls P f args w R) (k : ∀ e w',R e w' → ∃ u,e = .returned u ∧ next (a.put o.dst u) w') : o.wp P a w next Q:=by
 unfold Oper.wp
 rw [h,Oper.upon_enter]
 refine Calls.mono hc fun e w' he => ?_
 obtain ⟨u,rfl,hn⟩:=k e w' he
 exact hn
theorem zwk {Cf : zad} (S : zgQ P Cf) (R0 : Rel g w r.st) (L : Low r.base r.lim r.st) (F : Fr κ loc nt g w r a) {ct : Go.Call} {fv : Operand} {m : Mode} {fx : X} {xs : List X} (ho : o.op = .call ct) (hcal : ct.callee = .value fv) (hd : okD κ nt o.dst d = true)
  (hfx : okX κ loc fv fx = true) (hxs : zzf κ loc ct.args.toList xs = true) {r1 : R} (h : znW Cf r d m (r.gets xs) (r.get fx) = some r1) (k : znE κ (zaO o.dst d :: loc) nt g w r r1 (a.put o.dst) next) : o.wp P a w next Q:=by
 have hf:=F.get hfx
 have hargs:=F.gets hxs
 unfold znW at h
 split at h
 ·rename_i f first caps hfn
  rw [hfn] at hf
  simp only [zf,zw] at hf
  obtain ⟨fs,cs,ef,h1,h2⟩:=hf
  have hall : zz g w r.st (first.map V.one ++ (r.gets xs ++ caps.map V.one)) (fs.toList ++ (ct.args.toList.map a.eval ++ cs.toList)):=zjx (zpx h1) (zjx hargs (zpx h2))
  have harr : (fs ++ ct.args.map a.eval ++ cs) = (fs.toList ++ (ct.args.toList.map a.eval ++ cs.toList)).toArray:=by
   apply Array.ext'
   simp
  cases m with
  | op =>
    simp only [ya] at h
    obtain ⟨⟨v,σ'⟩,hC,rfl⟩:=h
    obtain ⟨he,hs⟩:=S f _ _ v σ' hC
    refine zsg (zmT ho hcal ef he) (R:=_) (by rw [harr]; exact hs g w _ R0 hall) fun e w' hR => ?_
    obtain ⟨u,g',rfl,hv,R1,H⟩:=hR
    refine ⟨u,rfl,?_⟩
    have hL : Low r.base r.lim σ':=⟨trivial⟩
    have hst : ({ r with st:=σ' } : R).st = σ':=rfl
    have hF : Fr κ loc nt g' w' { r with st:=σ' } a:=F.ext (r':={ r with st:=σ' }) H rfl rfl
    refine k g' w' _ ?_ ?_ ?_ (hF.put hd fun _ => hv) <;> rw [zvF,zeX]
    ·exact H
    ·exact R1
    ·exact hL
  | cl =>
    simp only at h
    rw [yd] at h
    obtain ⟨⟨v,σ'⟩,hC,h⟩:=h
    rw [yd] at hC
    obtain ⟨aS,hfz,hC⟩:=hC
    generalize hlent : (first.map V.one ++ (r.gets xs ++ caps.map V.one)).any zt2 = lent at h
    unfold zu6 at h
    split at h
    ·rename_i hc
     obtain ⟨hc1,hc2⟩:=hc
     have hσ : σ' = []:=yb hc1
     subst hσ
     injection h with h
     subst h
     obtain ⟨he,hs⟩:=S f aS [] v [] hC
     refine zsg (zmT ho hcal ef he) (R:=_) (by rw [harr]; exact hs (g.inn lent w) w _ (zyf R0 lent) (zlb R0 hfz (fun h => by rw [← hlent]; exact h) hall)) fun e w' hR => ?_
     obtain ⟨u,g',rfl,hv,R1,H⟩:=hR
     refine ⟨u,rfl,?_⟩
     have H2 : Ext g w r.st (g.out w r.st.length (lent = false) g') w' r.st:=by simpa using zun (keep:=lent = false) R0 H []
     have R2:=zuy (keep:=lent = false) R0 H R1
     have hF : Fr κ loc nt (g.out w r.st.length (lent = false) g') w' r a:=F.ext H2 rfl rfl
     refine k _ w' _ ?_ ?_ ?_ (hF.put hd fun _ => ?_)
     ·rw [zeX]; exact H2
     ·rw [zeX]; exact R2
     ·rw [zeX]; exact L
     ·rcases hc2 with hl | hl
      ·exact ztj (zlD hl hl H) v u hv
      ·exact zqs v u hl hv
    ·cases h
  | ck =>
    simp only at h
    split at h
    ·cases h
    ·rename_i hown
     have hlent : (first.map V.one ++ (r.gets xs ++ caps.map V.one)).any zt2 = false:=by simpa using hown
     rw [ya] at h
     obtain ⟨⟨v,σ'⟩,hC,rfl⟩:=h
     rw [yd] at hC
     obtain ⟨aS,hfz,hC⟩:=hC
     obtain ⟨he,hs⟩:=S f aS [] v σ' hC
     refine zsg (zmT ho hcal ef he) (R:=_) (by rw [harr]; exact hs (g.inn false w) w _ (zyf R0 false) (zlb R0 hfz (fun h => by rw [hlent] at h; cases h) hall)) fun e w' hR => ?_
     obtain ⟨u,g',rfl,hv,R1,H⟩:=hR
     refine ⟨u,rfl,?_⟩
     have H2:=zun (keep:=True) R0 H (σ'.map (Ob.shift r.st.length))
     have R2:=zCK (keep:=True) R0 trivial rfl H R1
     have hF : Fr κ loc nt (g.out w r.st.length True g') w' { r with st:=r.st ++ σ'.map (Ob.shift r.st.length) } a:=F.ext (r':={ r with st:=r.st ++ σ'.map (Ob.shift r.st.length) }) H2 rfl rfl
     refine k _ w' _ ?_ ?_ ?_ (hF.put hd fun _ => zm5 trivial rfl H v u hv) <;> rw [zvd,zeX]
     ·exact H2
     ·exact R2
     ·exact L.append _
 ·cases h
end
end Go.A
namespace Go.A
section
variable {P : Program} {κ : List Tmp} {loc : List (Option Tmp)} {nt : Nat} {g : G} {w : World} {r r' : R} {a : Act} {o : Go.Oper} {d : D} {next : Act → World → Prop} {Q : Exit → Act → World → Prop}
theorem zqh : ∀ {cs : List C} {fs : List Fz},zdl cs = some fs → C.kns cs = true
 | [],_,_ => rfl
 | c :: cs,fs,h => by
   rw [zdl] at h
   obtain ⟨y,z,h1,h2,rfl⟩:=zes h
   have ih:=zqh h2
   cases c <;> first | exact ih | (simp [zux] at h1)
theorem zzR (R0 : Rel g w r.st) (L : Low r.base r.lim r.st) (F : Fr κ loc nt g w r a) {t : TypeId} {x : Operand} {sz : Nat} (ho : o.op = .box t x) (hd : okD κ nt o.dst d = true) (h0 : 0 < sz)
  {vx : V} (hx : zf g w r.st vx (a.eval x)) (hl : vx.cells.length = sz) {fs : List Fz} (hf : zdl vx.cells = some fs)
  (k : znE κ (zaO o.dst d :: loc) nt g w r (zFe r d fs) (a.put o.dst) next) : o.wp P a w next Q:=by
 subst hl
 obtain ⟨k1,k2⟩:=zhZ hx (zqh hf) h0
 have hrows : zaq [vx.cells] = some [fs]:=by simp [zaq,hf,zfE]
 have hlay:=zkU (arr:=(a.eval x).cells) (by
  have:=zC k1
  simp at this ⊢
  exact this) (zjY k1 k2) hrows
 obtain ⟨g',H,R1,hv⟩:=zvZ R0 t hlay
 refine zaV (r1:=r) F hd H R1 L rfl rfl (u:=.pointer (some ⟨w.heap.size,0,none⟩)) ?_ ?_ k
 ·unfold execOp
  simp [ho,Instr.box,newVar,newRow]
 ·simp only [vsl,zf,zw,rep] at hv ⊢
  obtain ⟨ad,c,sz',e1,e2,e3,e4⟩:=hv
  rcases e4 with h | ⟨b,oo,h,h5⟩
  ·cases h
  ·injection e1 with q1 q2 q3
   rw [h] at q1
   injection q1 with q1
   injection q1 with q1 q4
   subst q1 q4
   simp only [zfp] at h5
   exact ⟨_,0,rfl,h5.1⟩
theorem zxU {t e : TypeId} {n l : Nat} {x : Operand} {lo : Option Operand} (ho : o.op = .slice t x lo none none) (ht : P.underlying t = some (.array n e)) (hs : zhf P e = some 1)
  (hlo : (lo = none ∧ l = 0) ∨ ∃ k,lo = some (.const (.int k (l : Int)))) {vx v : V} (hx : zf g w r.st vx (a.eval x)) (h : zE1 n l vx = some v) :
  ∃ u,(execOp a.eval o).run P w = .ok (.value u) w ∧ zf g w r.st v u:=by
 unfold zE1 at h
 split at h
 ·rename_i cs
  split at h
  ·rename_i hc
   injection h with h
   subst h
   simp only [zf,zw] at hx
   obtain ⟨b,oo,ex,hr⟩:=hx
   unfold zhf at hs
   cases hq : P.info? e with
   | none => simp [hq] at hs
   | some inf =>
     have hsz : inf.size = 1:=by simpa [hq] using hs
     have hb : (lo.map a.eval = none ∧ l = 0) ∨ ∃ k,lo.map a.eval = some (.int k (l : Int)):=by
      rcases hlo with ⟨rfl,h2⟩ | ⟨k,rfl⟩
      ·exact .inl ⟨rfl,h2⟩
      ·exact .inr ⟨k,rfl⟩
     have hbd:=zgZ (w:=w) (P:=P) false (len:=n) (cap:=n) (lo:=l) (hi:=n) (vlo:=lo.map a.eval) (vhi:=none) (vmx:=none) hb (.inl ⟨rfl,rfl,rfl⟩) (.inl rfl) hc.2 (yj _)
     refine ⟨.slice (some (if n = l then ⟨b,oo,none⟩ else (⟨b,oo,none⟩ : Addr).add (l * 1))) (n - l) (n - l),?_,?_⟩
     ·unfold execOp
      simp only [ho,ex]
      simp [Instr.sliceAt,run_underlying ht,Go.Instr.sureAddr,hbd,sizeOf,typeInfo,hq,hsz]
     ·simp only [vsl,zf,zw,rep]
      have hlen : ((cs.drop l).map single).length = n - l:=by simp; omega
      refine ⟨_,n - l,1,by rw [hlen],by omega,zdm fun e he => ?_,?_⟩
      ·obtain ⟨c,_,rfl⟩:=List.mem_map.1 he
       rfl
      ·by_cases c0 : n = l
       ·refine .inl ?_
        rw [List.map_eq_nil_iff,List.drop_eq_nil_iff]
        omega
       ·refine .inr ⟨b,oo + l,?_,zey fun i e hi => zf6 fun j y hj => ?_⟩
        ·rw [if_neg c0,zaz]
         simp
        ·rw [ye,ya] at hi
         obtain ⟨c,hi,rfl⟩:=hi
         rw [yl] at hi
         cases j with
         | succ j => simp [single] at hj
         | zero =>
           simp [single] at hj
           subst hj
           obtain ⟨u,h1,h2,h3⟩:=zfF hr hi
           refine ⟨u,?_,?_,h3⟩
           ·rw [show oo + l + i * 1 + 0 = oo + (l + i) from by omega]; exact h1
           ·rw [show oo + l + i * 1 + 0 = oo + (l + i) from by omega]; exact h2
  ·cases h
 ·cases h
theorem znL : ∀ {xs : List (List Fz)} {ns : List Int},bytesOf xs = some ns → xs = ns.map fun n => [.lit (.int .u8 n)]
 | [],ns,h => by
   simp [bytesOf] at h
   subst h
   rfl
 | e :: es,ns,h => by
   rw [bytesOf] at h
   obtain ⟨y,z,h1,h2,rfl⟩:=zes h
   have ih:=znL h2
   unfold byteOf at h1
   split at h1
   ·injection h1 with h1
    subst h1
    rw [ih]
    rfl
   ·cases h1
theorem zyQ (R0 : Rel g w r.st) {s t e : TypeId} {x : Operand} (ho : o.op = .convert s t x) (hs : P.underlying s = some (.slice e)) (he : P.underlying e = some (.int .u8)) (ht : P.underlying t = some .string)
  {vx v : V} (hx : zf g w r.st vx (a.eval x)) (h : (elems r.st vx).bind zE6 = some v) :
  ∃ u,(execOp a.eval o).run P w = .ok (.value u) w ∧ zf g w r.st v u:=by
 rw [yd] at h
 obtain ⟨xs,h1,h2⟩:=h
 unfold zE6 at h2
 rw [ya] at h2
 obtain ⟨ns,h2,rfl⟩:=h2
 have hxs:=znL h2
 have hok : znv 1 xs = true:=by
  rw [hxs]
  clear hxs h2 h1 hx
  induction ns with
  | nil => rfl
  | cons n ns ih => rw [ym,znv,ih]; rfl
 obtain ⟨a',c,news,ex,hlay,hat,hnil⟩:=zgK R0 hx h1 hok
 have hnews : news = ns.map (Value.int .u8):=by
  refine List.ext_getElem? fun i => ?_
  rw [ye]
  cases hi : ns[i]? with
  | none =>
    have : ns.length ≤ i:=List.getElem?_eq_none_iff.1 hi
    have hl:=hlay.1
    rw [hxs] at hl
    simp at hl
    simp
    omega
  | some n =>
    have hxi : xs[i]? = some [.lit (.int .u8 n)]:=by rw [hxs,ye,hi]; rfl
    obtain ⟨u,k1,k2⟩:=hlay.2.2 i _ hxi 0 (.lit (.int .u8 n)) rfl
    simp only [Nat.mul_one,Nat.add_zero] at k1
    rw [k1]
    simp only [rep] at k2
    simp [k2]
 refine ⟨.string (strOf ns),?_,zt (v:=.string (strOf ns)) rfl⟩
 unfold execOp
 simp only [ho,ex]
 have key : (convert s t (.slice a' xs.length c)).run P w = .ok (.string (strOf ns)) w:=by
  cases a' with
  | none =>
    have:=run_convert_bytes_nil (P:=P) w s e hs he xs.length c t ht
    rw [this]
    have hl:=hnil rfl
    have hns : ns = []:=by
     rw [hxs] at hl
     simpa using hl
    rw [hns]
    rfl
  | some ad =>
    have hl : (loadCells ad xs.length).run P w = .ok (ns.map (Value.int .u8)).toArray w:=by
     have:=run_loadCells_list (P:=P) w ad (ns.map (Value.int .u8)) (fun j v hj => by
      rw [← hnews] at hj
      exact hat ad rfl j v hj)
     have e2 : (ns.map (Value.int .u8)).length = xs.length:=by rw [hxs]; simp
     rwa [e2] at this
    rw [run_convert_bytes_string w s t e _ xs.length c hs he ht,run_bytesToString w ad xs.length c ns hl,foldl_push_bytes]
    simp [strOf,ByteArray.empty,ByteArray.emptyWithCapacity]
    rfl
 simp [key]
theorem zxs {op : BinOp} {t yt : TypeId} {x y : Operand} {neg : Bool} (ho : o.op = .binOp op t x y yt) (hop : (op = .eql ∧ neg = false) ∨ (op = .neq ∧ neg = true)) (ht : P.underlying t = some .string)
  {vx vy v : V} (hx : zf g w r.st vx (a.eval x)) (hy : zf g w r.st vy (a.eval y)) (h : zBH neg vx vy = some v) :
  ∃ u,(execOp a.eval o).run P w = .ok (.value u) w ∧ zf g w r.st v u:=by
 unfold zBH at h
 split at h
 ·rename_i p q
  obtain ⟨ex,_⟩:=zA hx
  obtain ⟨ey,_⟩:=zA hy
  injection h with h
  subst h
  rcases hop with ⟨rfl,rfl⟩ | ⟨rfl,rfl⟩
  ·refine ⟨.bool (p.toList == q.toList),?_,zt (v:=.bool (p.toList == q.toList)) rfl⟩
   unfold execOp
   simp only [ho,ex,ey]
   simp [eqGuard,binOp,Op.stringOp]
  ·refine ⟨.bool (!(p.toList == q.toList)),?_,zt (v:=.bool (!(p.toList == q.toList))) rfl⟩
   unfold execOp
   simp only [ho,ex,ey]
   simp [eqGuard,binOp,Op.stringOp]
 ·cases h
end
end Go.A
namespace Go.A
def G.give (g : G) (b : Nat) : G:={ g with N:=fun b' o => g.N b' o ∨ b' = b }
section
variable {P : Program} {κ : List Tmp} {loc : List (Option Tmp)} {nt : Nat} {g : G} {w : World} {r r' : R} {a : Act} {o : Go.Oper} {d : D} {next : Act → World → Prop} {Q : Exit → Act → World → Prop} {σ : zd}
theorem zxl (R : Rel g w σ) {id ver sz : Nat} {es : List (List C)} (hid : σ[id]? = some (.cells ver sz es)) {xs : List (List Fz)} (hf : zaq es = some xs) {n : Nat} {u : Value} (hv : zf g w σ (.one (.own id ver 0 n)) u) :
  ∃ g',Ext g w σ g' w (σ.set id (.cells (ver + 1) sz [])) ∧ Rel g' w (σ.set id (.cells (ver + 1) sz [])) ∧ zf g' w (σ.set id (.cells (ver + 1) sz [])) (vsl (xs.take n)) u:=by
 obtain ⟨ad,c,e1,e2,e3,e4⟩:=zfY hv hid
 obtain ⟨hl,hg⟩:=zd0 hf
 have hshape : ∀ ver' sz' len',shapeOf σ id = some (ver',sz',len') → ∃ ver1 len1,shapeOf (σ.set id (.cells (ver + 1) sz [])) id = some (ver1,sz',len1) ∧ ver' < ver1:=by
  intro ver' sz' len' hs
  rw [zn hid] at hs
  injection hs with hs
  injection hs with h1 h2
  injection h2 with h2 h3
  subst h1 h2
  exact ⟨ver + 1,0,by rw [zn (zx hid)]; rfl,by omega⟩
 by_cases hne : es = []
 ·subst hne
  have hxs : xs = []:=yb (by rw [hl]; rfl)
  subst hxs
  have hc:=e3 rfl
  have hn : n = 0:=by omega
  subst hn
  obtain ⟨H,R1⟩:=replace (g':=g) (w':=w) (new:=.cells (ver + 1) sz []) R hid (fun _ => False) rfl rfl rfl (yj _) (fun b hb _ => ⟨rfl,rfl,fun o h => h⟩) (fun b hb => hb.elim) (fun _ _ _ h => h) (fun _ _ => rfl) (fun _ _ _ => rfl)
   R.nb (fun v s l hs => .inr (hshape v s l hs)) (fun _ h => by cases h) (fun k n h => by simp [zlw,hid,Ob.fr] at h) (fun _ _ h => by cases h) (fun _ h => absurd rfl h)
  refine ⟨g,H,R1,?_⟩
  simp only [vsl,zf,zw,rep,List.take_nil]
  exact ⟨ad,c,sz,e1,Nat.zero_le _,trivial,.inl trivial⟩
 ·obtain ⟨k1,k2,arr,t,k3,k4,k5⟩:=R.ob id _ hid hne
  have hb : g.ρ id < w.heap.size:=(yf.1 k3).1
  obtain ⟨H,R1⟩:=replace (g':=g.give (g.ρ id)) (w':=w) (new:=.cells (ver + 1) sz []) R hid (fun b => b = g.ρ id) rfl rfl rfl (yj _) (fun b hb ht => ⟨rfl,rfl,fun o h => h.elim (fun x => x) (fun e => absurd e ht)⟩)
   (fun b hb => ⟨.inl (by rw [hb]; exact k1),rfl,fun o h => absurd (by rw [hb] at h; exact h) (k2 o)⟩) (fun _ _ _ h => .inl h) (fun _ _ => rfl) (fun _ _ _ => rfl)
   (fun b o h => h.elim (R.nb b o) (fun e => by rw [e]; exact hb)) (fun v s l hs => .inr (hshape v s l hs)) (fun _ h => by cases h) (fun k n h => by simp [zlw,hid,Ob.fr] at h) (fun _ _ h => by cases h) (fun _ h => absurd rfl h)
  refine ⟨_,H,R1,?_⟩
  obtain ⟨f1,f2,_⟩:=e4 (by simpa using hne)
  have htl : (xs.take n).length = n:=by rw [List.length_take]; omega
  simp only [vsl,zf,zw,rep]
  have hget : ∀ {i : Nat} {e : List Fz},(xs.take n)[i]? = some e → xs[i]? = some e:=fun h => by
   rw [yk] at h
   split at h
   ·exact h
   ·cases h
  refine ⟨ad,c,sz,by rw [htl]; exact e1,by rw [htl]; exact e2,zdm fun e he => ?_,?_⟩
  ·obtain ⟨i,hi⟩:=yi.1 he
   obtain ⟨e',h1,h2⟩:=hg i e (hget hi)
   rw [(zet h2).1]
   exact (k5 i e' h1).1
  ·by_cases hn : n = 0
   ·exact .inl (by rw [hn]; rfl)
   ·refine .inr ⟨g.ρ id,0,by rw [f2 (by omega)]; simp,zey fun i e hi => zf6 fun j x hj => ?_⟩
    obtain ⟨e',h1,h2⟩:=hg i e (hget hi)
    obtain ⟨cc,h3,h4⟩:=(zet h2).2 j x hj
    obtain ⟨uu,m1,m2,_⟩:=(k5 i e' h1).2 j cc h3
    refine ⟨uu,.inr rfl,?_,zb5 H.keeps x uu (zfG h4 m2)⟩
    rw [zgX k3,Nat.zero_add]
    exact m1
theorem zx5 (R0 : Rel g w r.st) (L : Low r.base r.lim r.st) (F : Fr κ loc nt g w r a) {x : Operand} {sz : Nat} (ho : o.op = .move x) (hd : okD κ nt o.dst d = true)
  {vx : V} (hx : zf g w r.st vx (a.eval x)) (h : zEh r d sz vx = some r')
  (k : znE κ (zaO o.dst d :: loc) nt g w r r' (a.put o.dst) next) : o.wp P a w next Q:=by
 unfold zEh at h
 split at h
 ·rename_i id ver n
  rw [yd] at h
  obtain ⟨ob,hid,h⟩:=h
  unfold zvC at h
  split at h
  ·rename_i ver' sz' es
   split at h
   ·rename_i hc
    obtain ⟨rfl,rfl⟩:=hc
    rw [ya] at h
    obtain ⟨xs,hf,rfl⟩:=h
    obtain ⟨g',H,R1,hv⟩:=zxl R0 hid hf hx
    exact zaV (r1:=r.setOb id (.cells (ver' + 1) sz' [])) F hd H R1 L.set rfl rfl (zog (P:=P) (w:=w) (a:=a) (.inl ho)) hv k
   ·cases h
  ·cases h
 ·cases h
theorem zAb (R0 : Rel g w r.st) (L : Low r.base r.lim r.st) (F : Fr κ loc nt g w r a) {t : TypeId} {x : Operand} {sz : Nat} (ho : o.op = .store t x (.const (.slice none 0 0))) (hd : okD κ nt o.dst d = true) (hno : d = .no) (hs : zhf P t = some 1)
  {vx : V} (hx : zf g w r.st vx (a.eval x)) {r1 : R} (h : zEZ r sz vx = some r1)
  (k : znE κ (zaO o.dst d :: loc) nt g w r (r1.put d vun) (a.put o.dst) next) : o.wp P a w next Q:=by
 obtain ⟨H,R1⟩:=zrs R0 sz [0] (fun _ => .slice none 0 0) (fun k n hn => ⟨by
  cases k with
  | zero => simp at hn; exact hn.symm
  | succ k => simp at hn,none,rfl⟩)
 refine zvk (r:=r.alloc (.tok sz [0])) (vv:=.one (.ap r.st.length 0 [])) R1 (L.append _) (F.ext H rfl rfl) ho hd hno hs (by decide) (H.zf _ _ hx) ?_ h fun g2 w2 u H2 R2 L2 F2 => k g2 w2 u (H.trans H2) R2 L2 F2
 simp only [zf]
 exact zyO (sz:=sz) [0] (by simp) rfl
end
end Go.A

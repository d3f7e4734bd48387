/- A part of the proof of AliasBoth. Conditions: none. -/
import Derived.Test.YtmkncmffaaninaaGreatAAD
set_option linter.all false
open Option renaming map_eq_some_iff → ya,bind_eq_some_iff → yh
open List renaming mem_of_getElem? → yb,replicate → yc,append_assoc → yj,mem_iff_getElem? → yl,mem_replicate → yn,range → yo,getElem?_map → yp,all_eq_true → yr,map_cons → yv
open Array renaming getElem?_setIfInBounds → yd,getElem?_toList → ye,length_toList → yf,getElem?_eq_getElem → yi,toArray_toList → ym,range → yu
open Int renaming mul_le_mul_of_nonneg_right → yg,le_refl → yw
open Nat renaming le_refl → yk,zero_le → yx
open Bool renaming and_eq_true → yq,or_eq_true → yt
namespace Go.A
section
variable {P : Program} {κ : List Tmp} {loc : List (Option Tmp)} {nt : Nat} {g : G} {w : World} {r r' : R} {a : Act} {o : Go.Oper} {d : D} {next : Act → World → Prop} {Q : Exit → Act → World → Prop}
theorem zby {t : TypeId} {b : List Value} (h : zeroOf P t = some b) : ∃ i z,P.info? t = some i ∧ i.zero = some z ∧ z.cells.toList = b:=by
 unfold zeroOf at h;rw [ya] at h;obtain ⟨z,a,c⟩:=h;rw [yh] at a;obtain ⟨i,a,d⟩:=a;exact ⟨i,z,a,d,c⟩
theorem zbl {t : TypeId} {i : TypeInfo} {z : Value} (b : P.info? t = some i) (a : i.zero = some z) : (zeroValue t).run P w = .ok z w:=by simp [zeroValue,typeInfo,b,a]
theorem zzQ (D : Rel g w r.st) (L : Low r.base r.lim r.st) (F : Fr κ loc nt g w r a) {t : TypeId} {b : List Value} {zero : List C} {fresh : List (Nat × Nat)} (s : o.op = .alloc t) (hd : okD κ nt o.dst d = true) (y : zeroOf P t = some b) (q : zdR b zero = true) (v : zgV b fresh = true)
  (k : znO κ (zaH o.dst d :: loc) nt g w r (aal r d zero fresh) (a.put o.dst) next) : o.wp P a w next Q:=by
 obtain ⟨i,z,x,m,n⟩:=zby y;obtain ⟨l,h⟩:=zal (g:=g) (w:=w) (σ:=r.st) q;obtain ⟨E,H1,B,f⟩:=zpr fresh D v l;have c:=zw f;rw [zgP] at c
 obtain ⟨A,p⟩:=zf5 (sz:=zero.length) (es:=[zee r.st.length fresh zero]) (us:=b) B t (by simp [c]) (by
  have:=zla f h
  rwa [zgP] at this)
 have j : (r.st ++ tokens fresh).length = r.st.length + fresh.length:=by simp [zgn]
 have e : aal r d zero fresh = (r.allocs (tokens fresh ++ [.cells 0 zero.length [zee r.st.length fresh zero]])).put d (.one (.ptr (r.st.length + fresh.length) 0 0 0)):=rfl;rw [e] at k;refine zbk (r1:=r.allocs (tokens fresh ++ [.cells 0 zero.length [zee r.st.length fresh zero]])) F hd (H1.trans (by simpa [R.allocs,yj] using A)) (by simpa [R.allocs,yj] using p) (L.append _) rfl rfl (u:=.pointer (some ⟨w.heap.size,0,none⟩)) ?_ ?_ k
 ·unfold execOp
  simp only [s];have : z.cells = b.toArray:=by rw [← n]
  simp [Instr.alloc,zbl (w:=w) x m,newVar,newRow,this]
 ·have:=zrV (g:=E) (w:=w) (σ:=r.st ++ tokens fresh) (sz:=zero.length) (es:=[zee r.st.length fresh zero]) (.cells b.toArray t)
  rw [j] at this;simpa [R.allocs,yj,zgn] using this
theorem zxp (h : Rel g w r.st) (L : Low r.base r.lim r.st) (F : Fr κ loc nt g w r a) {t : TypeId} {x : Operand} {sz : Nat} (j : o.op = .box t x) (hd : okD κ nt o.dst d = true) (e : 0 < sz)
  {b : V} (m : ze g w r.st b (a.eval x)) (i : b.cells.length = sz) (p : C.kns b.cells = true)
  (k : znO κ (zaH o.dst d :: loc) nt g w r ((r.alloc (.cells 0 sz [b.cells])).put d (.one (.ptr r.st.length 0 0 0))) (a.put o.dst) next) : o.wp P a w next Q:=by
 subst i;obtain ⟨c,n⟩:=zf1 m p e;obtain ⟨l,f⟩:=zf5 (sz:=b.cells.length) (es:=[b.cells]) h t (by simp [zw c]) (zla c n);refine zbk (r1:=r.alloc (.cells 0 b.cells.length [b.cells])) F hd l f (L.append _) rfl rfl (u:=.pointer (some ⟨w.heap.size,0,none⟩)) ?_ (zrV _) k;unfold execOp;simp [j,Instr.box,newVar,newRow]
theorem ztA : ∀ (l : List Value) (k off : Nat) (cs : Array Value),off + k + l.length ≤ cs.size →
  ((l.zipIdx k).foldl (fun cs (cj : Value × Nat) => cs.setIfInBounds (off + cj.2) cj.1) cs).size = cs.size ∧
  ∀ q,((l.zipIdx k).foldl (fun cs (cj : Value × Nat) => cs.setIfInBounds (off + cj.2) cj.1) cs)[q]? = if q < off + k then cs[q]? else if q < off + k + l.length then l[q - (off + k)]? else cs[q]?
 | [],k,off,cs,_ => ⟨by simp,fun q => by
   simp only [List.zipIdx_nil,List.foldl_nil,List.length_nil,Nat.add_zero]
   split <;> rfl⟩
 | v :: l,k,off,cs,h => by
   simp only [List.length_cons] at h;obtain ⟨b,a⟩:=ztA l (k + 1) off (cs.setIfInBounds (off + k) v) (by simp; omega);simp only [List.zipIdx_cons,List.foldl_cons];refine ⟨by rw [b]; simp,fun q => ?_⟩;rw [a]
   by_cases c1 : q < off + k
   ·rw [if_pos (by omega),if_pos c1,yd,if_neg (by omega)]
   ·rw [if_neg c1]
    by_cases c2 : q = off + k
    ·subst c2
     rw [if_pos (by omega),if_pos (by simp),yd];simp;omega
    ·rw [if_neg (by omega)]
     by_cases c3 : q < off + k + (l.length + 1)
     ·rw [if_pos (by omega),if_pos (by simpa using c3),show q - (off + k) = q - (off + (k + 1)) + 1 from by omega]
      simp
     ·rw [if_neg (by omega),if_neg (by simpa using c3),yd,if_neg (by omega)]
theorem zrX (l cs : Array Value) (off : Nat) (h : off + l.size ≤ cs.size) :
  (l.zipIdx.foldl (fun cs (cj : Value × Nat) => cs.setIfInBounds (off + cj.2) cj.1) cs).size = cs.size ∧
  ∀ q,(l.zipIdx.foldl (fun cs (cj : Value × Nat) => cs.setIfInBounds (off + cj.2) cj.1) cs)[q]? = if q < off then cs[q]? else if q < off + l.size then l.toList[q - off]? else cs[q]?:=by
 have:=ztA l.toList 0 off cs (by simpa using h);rw [← Array.foldl_toList,Array.toList_zipIdx];simpa using this
theorem zuo {σ : zb} {cs b e : List C} {us us' : List Value} {es : List Value} {off : Nat} (h : zm g w σ cs us) (he : zm g w σ e es) (n : zAR cs off e = some b) (r : us'.length = us.length)
  (d : ∀ q,us'[q]? = if q < off then us[q]? else if q < off + es.length then es[q - off]? else us[q]?) : zm g w σ b us':=by
 obtain ⟨y,o,i⟩:=znf n;have k:=zw he;refine zic (by rw [r,o]; exact zw h) fun j c u a hu => ?_;rw [i] at a;rw [d] at hu
 have sub : ∀ {l : List C} {m : List Value} {j' : Nat},zm g w σ l m → l[j']? = some c → m[j']? = some u → zq g w σ c u:=fun v p f => by
  obtain ⟨x,t,s⟩:=zcD v p;rw [t] at f;injection f with f;rw [← f]; exact s
 by_cases c1 : j < off
 ·rw [if_pos c1] at a hu; exact sub h a hu
 ·rw [if_neg c1] at a hu
  by_cases c2 : j < off + e.length
  ·rw [if_pos c2] at a
   rw [if_pos (by omega)] at hu;exact sub he a hu
  ·rw [if_neg c2] at a
   rw [if_neg (by omega)] at hu;exact sub h a hu
def zjf (κ : List Tmp) (loc : List (Option Tmp)) (place : Nat → Option (Nat × Nat)) : List (Nat × Operand) → List (Nat × Nat × X) → Bool
 | [],[] => true
 | (i,x) :: ps,(off,sz,y) :: qs => (place i == some (off,sz)) && decide (0 < sz) && okX κ loc x y && zjf κ loc place ps qs
 | _,_ => false
theorem zoj {place : Nat → Option (Nat × Nat)} (F : Fr κ loc nt g w r a) : ∀ (ps : List (Nat × Operand)) (f : List (Nat × Nat × X)) (cells : Array Value) (cs b : List C),zjf κ loc place ps f = true → zm g w r.st cs cells.toList → (∀ v ∈ cells.toList,v.oneCell' = true) →
  zkD r f cs = some b → ∃ cells',Instr.fill place cells (ps.map fun p => (p.1,a.eval p.2)) = some cells' ∧ zm g w r.st b cells'.toList ∧ ∀ v ∈ cells'.toList,v.oneCell' = true
 | [],[],cells,cs,b,_,h,h1,c => by
   simp only [zkD,Option.some.injEq] at c;subst c;exact ⟨cells,rfl,h,h1⟩
 | (i,x) :: ps,(off,sz,y) :: f,cells,cs,b,hp,h,h1,c => by
   simp only [zjf,yq,beq_iff_eq,decide_eq_true_eq] at hp;obtain ⟨⟨⟨n,A⟩,z⟩,m⟩:=hp;simp only [zkD] at c;split at c
   ·rename_i u
    rw [yh] at c;obtain ⟨l,o,c⟩:=c;obtain ⟨s,D⟩:=zf1 (F.get z) u.2 (by omega);have j:=zw s;simp only [yf] at j;obtain ⟨H,I,_⟩:=znf o;have k:=zw h;simp only [yf] at k;obtain ⟨f1,f2⟩:=zrX (a.eval x).cells cells off (by omega);have e:=zuo (us':=((a.eval x).cells.zipIdx.foldl (fun cs (cj : Value × Nat) => cs.setIfInBounds (off + cj.2) cj.1) cells).toList) h s o (by simpa using f1) (fun q => by simpa using f2 q)
    obtain ⟨cells',G,t,E⟩:=zoj F ps f _ l b m e (fun v B => by
     obtain ⟨q,d⟩:=yl.1 B;rw [ye,f2] at d;split at d
     ·exact h1 v (yb (by rw [ye]; exact d))
     ·split at d
      ·exact D v (yb d)
      ·exact h1 v (yb (by rw [ye]; exact d))) c
    refine ⟨cells',?_,t,E⟩;simp only [yv,Instr.fill,n];rw [if_neg]
    ·exact G
    ·simp only [yt,decide_eq_true_eq,not_or]
     constructor
     ·simp; omega
     ·omega
   ·cases c
 | [],_ :: _,_,_,_,hp,_,_,_ => by simp [zjf] at hp
 | _ :: _,[],_,_,_,hp,_,_,_ => by simp [zjf] at hp
end
def zlT (P : Program) (t : TypeId) : Option (Nat → Option (Nat × Nat)) :=
 match P.underlying t with
 | some (.array _ e) => (P.info? e).map fun ie i => some (i * ie.size,ie.size)
 | some (.struct fields) => (fields.toList.mapM (fun f => (P.info? f.type).map fun i => (f.offset,i.size))).map fun places i => places.toArray[i]?
 | _ => none
section
variable {P : Program} {κ : List Tmp} {loc : List (Option Tmp)} {nt : Nat} {g : G} {w : World} {r r' : R} {a : Act} {o : Go.Oper} {d : D} {next : Act → World → Prop} {Q : Exit → Act → World → Prop}
theorem zuD (r : R) (os : List Ob) (x : X) : (r.allocs os).get x = r.get x:=by cases x <;> rfl
theorem zll (r : R) (os : List Ob) : ∀ (a : List (Nat × Nat × X)) (cs : List C),zkD (r.allocs os) a cs = zkD r a cs
 | [],_ => rfl
 | (off,sz,x) :: a,cs => by
   simp only [zkD,zuD]
   congr 1
   exact congrArg _ (funext fun c => zll r os a c)
theorem zzu {t : TypeId} {place : Nat → Option (Nat × Nat)} {d : List Value} {ps : List (Nat × Value)} {cells : Array Value} (j : zeroOf P t = some d) (a : zlT P t = some place) (f : Instr.fill place d.toArray ps = some cells) : P.built t ps = some cells:=by
 obtain ⟨i,z,g,c,h⟩:=zby j;subst h;unfold zlT at a;unfold Program.built;split at a
 ·rename_i n e hu
  rw [ya] at a;obtain ⟨l,b,rfl⟩:=a;simp only [g,hu,c,b];simpa using f
 ·rename_i k hu
  rw [ya] at a;obtain ⟨pl,b,rfl⟩:=a;simp only [g,hu,c,b];simpa using f
 ·cases a
theorem zwZ (H : Rel g w r.st) (L : Low r.base r.lim r.st) (F : Fr κ loc nt g w r a) {t : TypeId} {parts : Array (Nat × Operand)} {b : List Value} {zero : List C} {fresh : List (Nat × Nat)} {place : Nat → Option (Nat × Nat)} {l : List (Nat × Nat × X)}
  (y : o.op = .build t parts) (hd : okD κ nt o.dst d = true) (A : zeroOf P t = some b) (v : zdR b zero = true) (z : zgV b fresh = true) (f : zlT P t = some place) (B : zjf κ loc place parts.toList l = true)
  {r1 : R} (h : (zkD r l (zee r.st.length fresh zero)).map (zBB r d fresh) = some r1) (k : znO κ (zaH o.dst d :: loc) nt g w r r1 (a.put o.dst) next) : o.wp P a w next Q:=by
 rw [ya] at h;obtain ⟨c,h,rfl⟩:=h;obtain ⟨m,e⟩:=zal (g:=g) (w:=w) (σ:=r.st) v;obtain ⟨p,H1,D,n⟩:=zpr fresh H z m;have q : Fr κ loc nt p w (r.allocs (tokens fresh)) a:=F.ext H1 rfl rfl;obtain ⟨cells,G,E,_⟩:=zoj (place:=place) q parts.toList l b.toArray _ c B (show zm p w (r.st ++ tokens fresh) _ b from n) (by simpa using e) (by rw [zll]; exact h);have s:=zzu A f G;refine zbk (r1:=r.allocs (tokens fresh)) F hd H1 D (L.append _) rfl rfl (u:=.agg cells) ?_ ?_ k
 ·unfold execOp
  have j : P.built t (parts.map fun (i,x) => (i,a.eval x)).toList = some cells:=by simpa using s
  simp only [y,Sem.run_bind,run_build w t _ cells j,Result.andThen_ok,Sem.run_pure]
 ·simp only [ze]
  exact ⟨cells,rfl,E⟩
theorem zjM {σ : zb} {zc : Array Value} {sz : Nat} {es : List (List C)} (m : zc.size = sz) (r : 0 < sz) (h : ∀ e ∈ es,zm g w σ e zc.toList) (p : ∀ u ∈ zc.toList,u.oneCell' = true) : zb9 g w σ ((yu (es.length * sz)).map (zc[· % zc.size]!)) sz es:=fun i e k => by
 have b:=h e (yb k);have n:=zw b;simp only [yf,m] at n;refine ⟨n.symm,fun j c l => ?_⟩;obtain ⟨u,d,q⟩:=zcD b l;have o : j < sz:=by have:=za l; omega
 refine ⟨u,?_,q,p u (yb d)⟩;have f:=inside (za k) o;rw [Array.getElem?_map,yi (by simpa using f)];simp only [Array.getElem_range,Option.map_some];have a : (i * sz + j) % zc.size = j:=by rw [m,Nat.mul_comm,Nat.mul_add_mod,Nat.mod_eq_of_lt o]
 rw [a];rw [ye] at d;rw [getElem!_pos zc j (by omega)];rw [yi (by omega)] at d;exact d
def zgv (κ : List Tmp) (loc : List (Option Tmp)) : List (Nat × Operand) → List (Nat × X) → Bool
 | [],[] => true
 | (i,x) :: ps,(j,y) :: qs => (i == j) && okX κ loc x y && zgv κ loc ps qs
 | _,_ => false
theorem znL (F : Fr κ loc nt g w r a) {sz : Nat} (B : 0 < sz) : ∀ (ps : List (Nat × Operand)) (f : List (Nat × X)) (cells : Array Value) (es es' : List (List C)),zgv κ loc ps f = true → cells.size = es.length * sz → zb9 g w r.st cells sz es →
  zlH r sz f es = some es' → ∃ cells',Instr.fill (fun i => some (i * sz,sz)) cells (ps.map fun p => (p.1,a.eval p.2)) = some cells' ∧ cells'.size = es'.length * sz ∧ zb9 g w r.st cells' sz es' ∧ es'.length = es.length
 | [],[],cells,es,es',_,hs,h,hf => by
   simp only [zlH,Option.some.injEq] at hf;subst hf;exact ⟨cells,rfl,hs,h,rfl⟩
 | (i,x) :: ps,(j,y) :: f,cells,es,es',hp,hs,h,hf => by
   simp only [zgv,yq,beq_iff_eq] at hp;obtain ⟨⟨rfl,E⟩,l⟩:=hp;simp only [zlH] at hf;split at hf
   ·rename_i D
    obtain ⟨c1,c2,c3⟩:=D;obtain ⟨t,G⟩:=zf1 (F.get E) c3 (by omega);have k:=zw t;simp only [yf] at k;have s:=zwQ (q:=sz) c1 (yk sz);obtain ⟨f1,f2⟩:=zrX (a.eval x).cells cells (i * sz) (by omega)
    obtain ⟨cells',K,v,H,I⟩:=znL F B ps f _ _ es' l (by rw [f1,hs]; simp) (fun o e b => by
     rw [List.getElem?_set] at b
     by_cases n : i = o
     ·subst n
      simp [c1] at b;subst b;refine ⟨c2,fun j c d => ?_⟩;obtain ⟨u,m1,m2⟩:=zcD t d;have m:=za d;refine ⟨u,?_,m2,G u (yb m1)⟩;rw [f2,if_neg (by omega),if_pos (by omega),Nat.add_sub_cancel_left];exact m1
     ·rw [if_neg n] at b
      obtain ⟨J,m1⟩:=h o e b;refine ⟨J,fun j c d => ?_⟩;obtain ⟨u,m2,z,A⟩:=m1 j c d;have m:=za d;refine ⟨u,?_,z,A⟩;rw [f2];split
      ·exact m2
      ·split
       ·exfalso
        have:=apart (q:=o * sz + j - i * sz) (sz:=sz) n (by omega : j < sz) (by omega);omega
       ·exact m2) hf
    refine ⟨cells',?_,v,H,by rw [I]; simp⟩;simp only [yv,Instr.fill];rw [if_neg]
    ·exact K
    ·simp only [yt,decide_eq_true_eq,not_or]
     constructor
     ·simp; omega
     ·omega
   ·cases hf
 | [],_ :: _,_,_,_,hp,_,_,_ => by simp [zgv] at hp
 | _ :: _,[],_,_,_,hp,_,_,_ => by simp [zgv] at hp
theorem zeJ {σ : zb} {c : C} {x : Fz} {u : Value} (h : zvD c = some x) (a : zq g w σ c u) : rep w g.N x u:=by
 unfold zvD at h;split at h
 ·injection h with h; subst h; simpa only [zq] using a
 ·injection h with h; subst h; simp only [zq] at a; exact a.1
 ·cases h
theorem zdY {α : Type} {x : Option α} {xs : Option (List α)} {ys : List α} (h : zeA x xs = some ys) : ∃ y z,x = some y ∧ xs = some z ∧ ys = y :: z:=by
 unfold zeA at h;split at h
 ·injection h with h; exact ⟨_,_,rfl,rfl,h.symm⟩
 ·cases h
theorem zdK : ∀ {cs : List C} {xs : List Fz},zdm cs = some xs → xs.length = cs.length ∧ ∀ (j : Nat) (x : Fz),xs[j]? = some x → ∃ c,cs[j]? = some c ∧ zvD c = some x
 | [],xs,h => by
   simp only [zdm,Option.some.injEq] at h;subst h;exact ⟨rfl,fun j x a => by simp at a⟩
 | c :: cs,xs,h => by
   simp only [zdm] at h;obtain ⟨y,z,e,b,rfl⟩:=zdY h;obtain ⟨l,d⟩:=zdK b;refine ⟨by simp [l],fun j x a => ?_⟩
   cases j with
   | zero => simp at a; subst a; exact ⟨c,by simp,e⟩
   | succ j => simpa using d j x (by simpa using a)
theorem zc9 : ∀ {es : List (List C)} {xs : List (List Fz)},zbx es = some xs → xs.length = es.length ∧ ∀ (i : Nat) (x : List Fz),xs[i]? = some x → ∃ e,es[i]? = some e ∧ zdm e = some x
 | [],xs,h => by
   simp only [zbx,Option.some.injEq] at h;subst h;exact ⟨rfl,fun j x a => by simp at a⟩
 | c :: cs,xs,h => by
   simp only [zbx] at h;obtain ⟨y,z,f,b,rfl⟩:=zdY h;obtain ⟨l,d⟩:=zc9 b;refine ⟨by simp [l],fun j x a => ?_⟩
   cases j with
   | zero => simp at a; subst a; exact ⟨c,by simp,f⟩
   | succ j => simpa using d j x (by simpa using a)
theorem zmP {σ : zb} {arr : Array Value} {sz : Nat} {es : List (List C)} {xs : List (List Fz)} (p : arr.size = es.length * sz) (h : zb9 g w σ arr sz es) (o : zbx es = some xs) : Lay w g.N sz xs arr.toList:=by
 obtain ⟨l,k⟩:=zc9 o;refine ⟨by simp [p,l],zcT fun e he => ?_,fun i e b j x q => ?_⟩
 ·obtain ⟨i,b⟩:=yl.1 he
  obtain ⟨d,f,a⟩:=k i e b;rw [(zdK a).1];exact (h i d f).1
 ·obtain ⟨d,f,a⟩:=k i e b
  obtain ⟨c,n,r⟩:=(zdK a).2 j x q;obtain ⟨u,m1,m2,m⟩:=(h i d f).2 j c n;exact ⟨u,by simpa using m1,zeJ r m2,m⟩
theorem zjI {σ : zb} {sz : Nat} {xs : List (List Fz)} {us : List Value} (h : Lay w g.N sz xs us) : zb9 g w σ us.toArray sz (xs.map fun e => e.map C.f):=fun i e a => by
 rw [yp,ya] at a;obtain ⟨x,d,rfl⟩:=a;refine ⟨by simpa using zba h.2.1 d,fun j c b => ?_⟩;rw [yp,ya] at b;obtain ⟨y,l,rfl⟩:=b;obtain ⟨u,k,m,n⟩:=h.2.2 i x d j y l;exact ⟨u,by simpa using k,by simpa only [zq] using m,n⟩
def zv9 (zs : List Value) (zero : List (List C)) : Bool:=zero.all fun e => zdR zs e
theorem zwH (U : Rel g w r.st) (L : Low r.base r.lim r.st) (F : Fr κ loc nt g w r a) {t e : TypeId} {len sz : Nat} {parts : Array (Nat × Operand)} {A : List Value} {zero : List (List C)} {O : List (Nat × X)} {b : B}
  (ho : o.op = .buildSlice t len parts) (hd : okD κ nt o.dst d = true) (ht : P.underlying t = some (.slice e)) (Z : zgf P e = some sz) (W : 0 < sz) (hlen : zero.length = len) (Y : len * sz ≤ 16777216) (hz : zeroOf P e = some A) (K : A.length = sz) (y : A.all Value.oneCell' = true) (hc : zv9 A zero = true) (hp : zgv κ loc parts.toList O = true)
  {r1 : R} (h : (zlH r sz O zero).bind (zt4 r d sz b) = some r1) (k : znO κ (zaH o.dst d :: loc) nt g w r r1 (a.put o.dst) next) : o.wp P a w next Q:=by
 subst hlen;rw [yh] at h;obtain ⟨es',h,c⟩:=h;obtain ⟨i,z,D,h2,h3⟩:=zby hz;subst h3;have M : z.cells.size = sz:=by simpa using K
 have S : ∀ u ∈ z.cells.toList,u.oneCell' = true:=fun u hu => yr.1 y u hu;have n:=zjM (g:=g) (w:=w) (σ:=r.st) (zc:=z.cells) (es:=zero) M W (fun e he => (zal (yr.1 hc e he)).1) S;obtain ⟨cells,k1,E,G,k4⟩:=znL F W parts.toList O _ zero es' hp (by simp) n h;have V : es'.length = zero.length:=k4
 have f : (execOp a.eval o).run P w = .ok (.value (.slice (some ⟨w.heap.size,0,none⟩) es'.length es'.length)) (w.alloc (.cells cells e)):=by
  unfold zgf at Z;have s : i.size = sz:=by simpa [D] using Z
  have p : ¬ (16777216 < zero.length * sz):=by omega
  have j : Instr.fill (fun i => some (i * sz,sz)) ((yu (zero.length * sz)).map (z.cells[· % z.cells.size]!)) (parts.map fun (i,x) => (i,a.eval x)).toList = some cells:=by simpa using k1
  unfold execOp;simp only [ho]
  by_cases m : zero.length = 0
  ·have I : (yu (zero.length * sz)).map (z.cells[· % z.cells.size]!) = (yu (zero.length * sz)).map ((#[] : Array Value)[· % (#[] : Array Value).size]!):=by simp [m,Array.range_zero']
   rw [I] at j;simp [Instr.buildSlice,run_underlying ht,sizeOf,typeInfo,D,s,m,newRow,V];simp [m] at j;simp [j]
  ·have J : ¬ (zero.length * sz = 0):=Nat.mul_ne_zero m (by omega)
   simp [Instr.buildSlice,run_underlying ht,sizeOf,typeInfo,D,s,p,J,zbl (w:=w) D h2,newRow,V];simp at j;simp [j]
 have N : cells = cells.toList.toArray:=by simp
 rw [N] at f
 cases b with
 | fz =>
   simp only [zt4,ya] at c;obtain ⟨xs,c,rfl⟩:=c;have l:=zmP E G c;rw [← (zc9 c).1] at f;obtain ⟨g',H,v,q⟩:=zzi U e l;exact zbk (r1:=r) F hd H v L rfl rfl f q k
 | tk =>
   simp only [zt4,ya] at c;obtain ⟨xs,c,rfl⟩:=c;have l:=zmP E G c;rw [← (zc9 c).1] at f;obtain ⟨g',H,v,q⟩:=zx2 U e l;exact zbk (r1:=r.alloc (.tok sz [xs.length])) F hd H v (L.append _) rfl rfl f q k
 | rw =>
   simp only [zt4,Option.some.injEq] at c;subst c;obtain ⟨H,v⟩:=zf5 (sz:=sz) (es:=es') U e (us:=cells.toList) (by simpa using E) (by simpa using G);have q:=zmI (g:=g) (w:=w) (σ:=r.st) (sz:=sz) (es:=es') (us:=cells.toList) e (by simpa using E);exact zbk (r1:=r.alloc (.cells 0 sz es')) F hd H v (L.append _) rfl rfl f q k
end
section
variable {P : Program} {κ : List Tmp} {loc : List (Option Tmp)} {nt : Nat} {g : G} {w : World} {r r' : R} {a : Act} {o : Go.Oper} {d : D} {next : Act → World → Prop} {Q : Exit → Act → World → Prop}
theorem zx0 {σ : zb} {sz : Nat} {f : Nat → Value} (fr : List Nat) {k : Nat} (a : fr[k]? = some 0) (b : f k = .slice none 0 0) : zq (g.nils σ.length f) w (σ ++ [.tok sz fr]) (.ap σ.length k []) (.slice none 0 0):=by
 rw [zq];exact ⟨zpz,0,zct (sz:=sz) (fr:=fr) (by simp) a,yk _,fun _ => by rw [G.nils_tv,b],sz,zbC (fr:=fr) (by simp),by simp only [zbr]⟩
theorem zt5 (f : Rel g w r.st) (L : Low r.base r.lim r.st) (F : Fr κ loc nt g w r a) {b : B} {sz : Nat} (j : o.op = .move (.const (.slice none 0 0)) ∨ o.op = .assign (.const (.slice none 0 0))) (hd : okD κ nt o.dst d = true)
  {r1 : R} (h : anl r d sz b = some r1) (k : znO κ (zaH o.dst d :: loc) nt g w r r1 (a.put o.dst) next) : o.wp P a w next Q:=by
 have c:=zpO (P:=P) (w:=w) (a:=a) j
 cases b with
 | fz =>
   simp only [anl,Option.some.injEq] at h;subst h;exact zjA f L F hd c (by simpa only [vsl,ze,zq,Act.eval] using zpz) k
 | tk =>
   simp only [anl,Option.some.injEq] at h;subst h
   obtain ⟨H,i⟩:=zqg f sz [0] (fun _ => .slice none 0 0) (fun k n e => ⟨by
    cases k with
    | zero => simp at e; exact e.symm
    | succ k => simp at e,none,rfl⟩)
   exact zbk (r1:=r.alloc (.tok sz [0])) F hd H i (L.append _) rfl rfl c (by simp only [ze]; exact zx0 (sz:=sz) [0] (by simp) rfl) k
 | rw =>
   simp only [anl,Option.some.injEq] at h;subst h;obtain ⟨H,i⟩:=zpU f sz;refine zbk (r1:=r.alloc (.cells 0 sz [])) F hd H i (L.append _) rfl rfl c ?_ k;simp only [ze,zq,Act.eval];exact ⟨0,sz,0,zo (zie _ _),yk _,fun _ => ⟨none,0,rfl,yk _,fun _ => rfl,fun h => absurd rfl h⟩,_,_,rfl⟩
theorem zq7 {t e : TypeId} {i : TypeInfo} {z : Value} (g : P.underlying t = some (.slice e)) (d : P.info? e = some i) (c : i.zero = some z) {a : IntKind} {k : Int} (b : 0 ≤ k) (f : k ≤ LIM) (h : i.bytes ≤ 32768) :
  (Instr.makeSlice t (.int a k) (.int a k)).run P w = .ok (.slice (some ⟨w.heap.size,0,none⟩) k.toNat k.toNat) (w.alloc (.cells (madeCells z.cells (k.toNat * i.size)) e)):=by
 unfold LIM at f;refine run_make w t e i z g d c a a k k b (yw _) ?_ (by omega);have j : (i.bytes : Int) * k ≤ 32768 * k:=yg (by omega) b;omega
theorem zxh (N : Rel g w r.st) (L : Low r.base r.lim r.st) (F : Fr κ loc nt g w r a) {t e : TypeId} {x : Operand} {sz : Nat} {i : TypeInfo} {B : List Value} {zero : List C} {fresh : Option (Nat × Nat)}
  (Z : o.op = .makeSlice t x x) (hd : okD κ nt o.dst d = true) (ht : P.underlying t = some (.slice e)) (G : P.info? e = some i) (X : i.bytes ≤ 32768) (hs : i.size = sz) (I : 0 < sz) (hz : zeroOf P e = some B) (v : B.length = sz) (Y : zdR B zero = true)
  (hf : ∀ j,fresh = some j → B[j.1]? = some (.slice none 0 0)) {J : V} (K : ze g w r.st J (a.eval x)) {r1 : R} (h : zBC r d zero fresh J = some r1) (k : znO κ (zaH o.dst d :: loc) nt g w r r1 (a.put o.dst) next) : o.wp P a w next Q:=by
 obtain ⟨i',z,D,O,U⟩:=zby hz;rw [G] at D;injection D with D;subst D;subst U;have A : z.cells.size = sz:=by simpa using v
 obtain ⟨f,p⟩:=zal (g:=g) (w:=w) (σ:=r.st) Y;have s : zero.length = sz:=by rw [← zw f]; exact v
 have c : ∀ l m,a.eval x = .int l m → 0 ≤ m → m ≤ LIM → (execOp a.eval o).run P w = .ok (.value (.slice (some ⟨w.heap.size,0,none⟩) m.toNat m.toNat)) (w.alloc (.cells (madeCells z.cells (m.toNat * sz)).toList.toArray e)):=fun l m ex m0 m1 => by
  unfold execOp;simp only [Z,ex,Sem.run_bind,zq7 (P:=P) (w:=w) ht G O m0 m1 X,Result.andThen_ok,Sem.run_pure,hs]
 unfold zBC at h;split at h
 ·rename_i l m
  obtain ⟨ex,_⟩:=zH K;split at h
  ·rename_i hm
   injection h with h;subst h;rw [s] at k;have hlen : (yc m.toNat zero).length = m.toNat:=(by simp);have y : (madeCells z.cells (m.toNat * sz)).toList.length = (yc m.toNat zero).length * sz:=by simp [size_madeCells]
   have b : zb9 g w r.st (madeCells z.cells (m.toNat * sz)).toList.toArray sz (yc m.toNat zero):=by
    have:=zjM (g:=g) (w:=w) (σ:=r.st) (es:=yc m.toNat zero) A I (fun e he => by rw [(yn.1 he).2]; exact f) p;rw [hlen] at this;rw [ym];exact this
   obtain ⟨H,E⟩:=zf5 N e y b;have u:=zmI (g:=g) (w:=w) (σ:=r.st) e y;rw [hlen] at u;exact zbk (r1:=r.alloc (.cells 0 sz (yc m.toNat zero))) F hd H E (L.append _) rfl rfl (c l m ex hm.1 hm.2) u k
  ·cases h
 ·rename_i j l m
  obtain ⟨ex,_⟩:=zH K;split at h
  ·rename_i hm
   injection h with h;subst h;rw [s] at k;obtain ⟨H1,E⟩:=zqg N j.2 (yc m.toNat 0) (fun _ => .slice none 0 0) (fun q n S => ⟨(yn.1 (yb S)).2,none,rfl⟩);have hlen : ((yo m.toNat).map (nest r.st.length zero j.1)).length = m.toNat:=(by simp);have y : (madeCells z.cells (m.toNat * sz)).toList.length = ((yo m.toNat).map (nest r.st.length zero j.1)).length * sz:=by simp [size_madeCells]
   have b : zb9 (g.nils r.st.length fun _ => .slice none 0 0) w (r.st ++ [.tok j.2 (yc m.toNat 0)]) (madeCells z.cells (m.toNat * sz)).toList.toArray sz ((yo m.toNat).map (nest r.st.length zero j.1)):=by
    have:=zjM (g:=g.nils r.st.length fun _ => .slice none 0 0) (w:=w) (σ:=r.st ++ [.tok j.2 (yc m.toNat 0)]) (es:=(yo m.toNat).map (nest r.st.length zero j.1)) A I (fun e he => by
     obtain ⟨q,M,rfl⟩:=List.mem_map.1 he;rw [List.mem_range] at M
     exact zns (H1.zm _ _ f) (hf j rfl) (zx0 _ (by simp [List.getElem?_replicate,M]) rfl)) p
    rw [hlen] at this;rw [ym];exact this
   obtain ⟨H,W⟩:=zf5 E e y b;have u:=zmI (g:=g.nils r.st.length fun _ => .slice none 0 0) (w:=w) (σ:=r.st ++ [.tok j.2 (yc m.toNat 0)]) e y;rw [hlen] at u;refine zbk (r1:=r.allocs [.tok j.2 (yc m.toNat 0),.cells 0 sz ((yo m.toNat).map (nest r.st.length zero j.1))]) F hd (H1.trans (by simpa [R.allocs] using H)) (by simpa [R.allocs] using W) (L.append _) rfl rfl (c l m ex hm.1 hm.2) (by simpa [R.allocs] using u) k
  ·cases h
 ·cases h
theorem zw6 (e : Rel g w r.st) (L : Low r.base r.lim r.st) (F : Fr κ loc nt g w r a) {t : TypeId} (h : o.op = .makeMap t none) (hd : okD κ nt o.dst d = true)
  (k : znO κ (zaH o.dst d :: loc) nt g w r ((r.alloc (.mp [])).put d (.one (.map r.st.length))) (a.put o.dst) next) : o.wp P a w next Q:=by
 obtain ⟨H,f⟩:=zrx e (.mp []) (.map #[] 0) fun H b c i => ⟨by rw [b]; exact c,by rw [b]; exact i,#[],0,by rw [b]; exact z7 w _,⟨[],.nil,by simp,rfl⟩,by simp,by simp⟩;refine zbk (r1:=r.alloc (.mp [])) F hd H f (L.append _) rfl rfl (u:=.map (some w.heap.size)) ?_ ?_ k
 ·unfold execOp
  simp [h,Instr.makeMap]
 ·simp only [ze,zq]
  exact ⟨⟨[],zie _ _⟩,by simp [G.own]⟩
theorem zu5 {σ : zb} (l : Rel g w σ) {sz c : Nat} {cur : Array Value} (t : TypeId) (x : cur.size = c * sz) :
  ∃ g',Ext g w σ g' (w.alloc (.cells cur t)) (σ ++ [.tok sz [0]]) ∧ Rel g' (w.alloc (.cells cur t)) (σ ++ [.tok sz [0]]) ∧
    ze g' (w.alloc (.cells cur t)) (σ ++ [.tok sz [0]]) (.one (.ap σ.length 0 [])) (.slice (some ⟨w.heap.size,0,none⟩) 0 c):=by
 let g' : G:={ g with tv:=fun a k => if a = σ.length then .slice (some ⟨w.heap.size,0,none⟩) 0 c else g.tv a k,ow:=zr1 g.ow w.heap.size (.tk σ.length 0) }
 have j : ∀ b,b < w.heap.size → g'.ow b = g.ow b:=fun b r => zP g.ow (k:=w.heap.size) (i:=b) _ (by omega)
 have e : ∀ a k,a < σ.length → g'.tv a k = g.tv a k:=fun a k h => by
  show (if a = σ.length then _ else g.tv a k) = _
  rw [if_neg (by omega)]
 have d : ∀ k,g'.tv σ.length k = .slice (some ⟨w.heap.size,0,none⟩) 0 c:=fun k => by
  show (if σ.length = σ.length then _ else _) = _
  rw [if_pos rfl]
 have H : Ext g w σ g' (w.alloc (.cells cur t)) (σ ++ [.tok sz [0]]) :=
  Ext.alloc l _ g' (fun _ _ => rfl) (fun a k n h => e a k (by obtain ⟨_,_,v,_⟩:=zb7 h; exact za v)) j (fun _ _ _ => Iff.rfl) _
 have u:=z7 w (.cells cur t);refine ⟨g',H,⟨fun b o h => ?_,fun id o h => ?_⟩,?_⟩
 ·rw [size_alloc]
  have:=l.nb b o h;omega
 ·by_cases f : id < σ.length
  ·rw [List.getElem?_append_left f] at h
   exact zbi H rfl (fun k => e id k f) (fun b r _ => ⟨heap_alloc_old w _ r,j b r,fun _ h => h⟩) (l.ob id o h)
  ·have p : id = σ.length:=by
    have:=za h;simp at this;omega
   subst p;simp at h;subst h;intro k n m
   cases k with
   | succ k => simp at m
   | zero =>
     simp at m;subst m;rw [d];rcases Nat.eq_zero_or_pos c with q | q
     ·exact .inl ⟨rfl,_,by rw [q]⟩
     ·exact .inr ⟨_,_,_,cur,t,rfl,q,yx _,zcv _ _ _,u,by simp [x],fun y s => absurd (l.nb _ _ s) (Nat.lt_irrefl _)⟩
 ·simp only [ze,zq,rep]
  exact ⟨⟨_,c,sz,rfl,yx _,by simp only [zbr],.inl trivial⟩,0,zct (sz:=sz) (fr:=[0]) (by simp) (by simp),yk _,fun _ => (d 0).symm,sz,zbC (fr:=[0]) (by simp),by simp only [zbr]⟩
theorem zx7 (B : Rel g w r.st) (L : Low r.base r.lim r.st) (F : Fr κ loc nt g w r a) {t e : TypeId} {x : Operand} {f : IntKind} {sz : Nat} {i : TypeInfo} {z : Value}
  (s : o.op = .makeSlice t (.const (.int f 0)) x) (hd : okD κ nt o.dst d = true) (D : P.underlying t = some (.slice e)) (l : P.info? e = some i) (E : i.bytes ≤ 32768) (v : i.size = sz) (u : i.zero = some z)
  {j : V} (p : ze g w r.st j (a.eval x)) {r1 : R} (h : zCr r d sz j = some r1) (k : znO κ (zaH o.dst d :: loc) nt g w r r1 (a.put o.dst) next) : o.wp P a w next Q:=by
 unfold zCr at h;split at h
 ·rename_i q m
  obtain ⟨ex,_⟩:=zH p;split at h
  ·rename_i hm
   injection h with h;subst h;have y : m ≤ LIM:=hm.2;unfold LIM at y
   have b:=run_make (P:=P) w t e i z D l u f q 0 m (yw _) hm.1 (by
    have G : (i.bytes : Int) * m ≤ 32768 * m:=yg (by omega) hm.1
    omega) (by omega)
   simp only [Int.toNat_zero] at b;obtain ⟨g',H,A,n⟩:=zu5 (c:=m.toNat) (sz:=sz) (cur:=madeCells z.cells (m.toNat * i.size)) B e (by rw [size_madeCells,v]);refine zbk (r1:=r.alloc (.tok sz [0])) F hd H A (L.append _) rfl rfl ?_ n k;unfold execOp;have C : a.eval (.const (.int f 0)) = .int f 0:=rfl;simp only [s,ex,C,Sem.run_bind,b,Result.andThen_ok,Sem.run_pure]
  ·cases h
 ·cases h
end
end Go.A

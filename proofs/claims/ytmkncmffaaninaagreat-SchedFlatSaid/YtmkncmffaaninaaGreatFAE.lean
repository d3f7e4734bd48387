/- A part of the proof of SchedFlat. Conditions: none. -/
import Derived.Test.YtmkncmffaaninaaGreatFAD
set_option linter.all false
open List renaming replicate → ya,mem_of_getElem? → yc,range → yh,append_assoc → yl,mem_iff_getElem? → yn,replicate_succ' → yo,mem_replicate → yp,getElem?_map → yq,all_eq_true → yt,mem_range → yw,map_cons → yx,mem_map → yz
open Option renaming map_eq_some_iff → yb,bind_eq_some_iff → yi
open Array renaming getElem?_setIfInBounds → yd,getElem?_toList → ye,length_toList → yf,toArray_toList → yj,getElem?_eq_getElem → yk,range → yv
open Int renaming mul_le_mul_of_nonneg_right → yg,le_refl → yy
open Nat renaming le_refl → ym,zero_le → yA
open Bool renaming and_eq_true → yr,or_eq_true → yu
namespace Go.A
section
variable {P : Program} {κ : List Tmp} {loc : List (Option Tmp)} {nt : Nat} {g : G} {w : World} {r r' : R} {a : Act} {o : Go.Oper} {d : D} {next : Act → World → Prop} {Q : Exit → Act → World → Prop}
theorem zda {t : TypeId} {b : List Value} (h : zeroOf P t = some b) : ∃ i z,P.info? t = some i ∧ i.zero = some z ∧ z.cells.toList = b:=by
 unfold zeroOf at h;rw [yb] at h;obtain ⟨z,a,d⟩:=h;rw [yi] at a;obtain ⟨i,a,c⟩:=a;exact ⟨i,z,a,c,d⟩
theorem zdh {t : TypeId} {i : TypeInfo} {z : Value} (a : P.info? t = some i) (b : i.zero = some z) : (zeroValue t).run P w = .ok z w:=by simp [zeroValue,typeInfo,a,b]
theorem zBf (D : Rel g w r.st) (L : Low r.base r.lim r.st) (F : Fr κ loc nt g w r a) {t : TypeId} {b : List Value} {zero : List C} {fresh : List (Nat × Nat)} (y : o.op = .alloc t) (hd : okD κ nt o.dst d = true) (s : zeroOf P t = some b) (x : zfm b zero = true) (n : zg8 b fresh = true)
  (k : zpE κ (za5 o.dst d :: loc) nt g w r (aal r d zero fresh) (a.put o.dst) next) : o.wp P a w next Q:=by
 obtain ⟨i,z,A,q,B⟩:=zda s;obtain ⟨h,l⟩:=zav (g:=g) (w:=w) (σ:=r.st) x;obtain ⟨E,H1,p,f⟩:=zsz fresh D n h;have c:=zI f;rw [ziJ] at c
 obtain ⟨v,m⟩:=zgL (sz:=zero.length) (es:=[zf8 r.st.length fresh zero]) (us:=b) p t (by simp [c]) (by
  have:=zmY f l
  rwa [ziJ] at this)
 have j : (r.st ++ tokens fresh).length = r.st.length + fresh.length:=by simp [ziQ]
 have e : aal r d zero fresh = (r.allocs (tokens fresh ++ [.cells 0 zero.length [zf8 r.st.length fresh zero]])).put d (.one (.ptr (r.st.length + fresh.length) 0 0 0)):=rfl;rw [e] at k;refine zbx (r1:=r.allocs (tokens fresh ++ [.cells 0 zero.length [zf8 r.st.length fresh zero]])) F hd (H1.trans (by simpa [R.allocs,yl] using v)) (by simpa [R.allocs,yl] using m) (L.append _) rfl rfl (u:=.pointer (some ⟨w.heap.size,0,none⟩)) ?_ ?_ k
 ·unfold execOp
  simp only [y];have : z.cells = b.toArray:=by rw [← B]
  simp [Instr.alloc,zdh (w:=w) A q,newVar,newRow,this]
 ·have:=ztC (g:=E) (w:=w) (σ:=r.st ++ tokens fresh) (sz:=zero.length) (es:=[zf8 r.st.length fresh zero]) (.cells b.toArray t)
  rw [j] at this;simpa [R.allocs,yl,ziQ] using this
theorem zzq (m : Rel g w r.st) (L : Low r.base r.lim r.st) (F : Fr κ loc nt g w r a) {t : TypeId} {x : Operand} {sz : Nat} (l : o.op = .box t x) (hd : okD κ nt o.dst d = true) (h : 0 < sz)
  {b : V} (i : zf g w r.st b (a.eval x)) (p : b.cells.length = sz) (n : C.kns b.cells = true)
  (k : zpE κ (za5 o.dst d :: loc) nt g w r ((r.alloc (.cells 0 sz [b.cells])).put d (.one (.ptr r.st.length 0 0 0))) (a.put o.dst) next) : o.wp P a w next Q:=by
 subst p;obtain ⟨c,j⟩:=zkt i n h;obtain ⟨f,e⟩:=zgL (sz:=b.cells.length) (es:=[b.cells]) m t (by simp [zI c]) (zmY c j);refine zbx (r1:=r.alloc (.cells 0 b.cells.length [b.cells])) F hd f e (L.append _) rfl rfl (u:=.pointer (some ⟨w.heap.size,0,none⟩)) ?_ (ztC _) k;unfold execOp;simp [l,Instr.box,newVar,newRow]
theorem zvQ : ∀ (l : List Value) (k off : Nat) (cs : Array Value),off + k + l.length ≤ cs.size →
  ((l.zipIdx k).foldl (fun cs (cj : Value × Nat) => cs.setIfInBounds (off + cj.2) cj.1) cs).size = cs.size ∧
  ∀ q,((l.zipIdx k).foldl (fun cs (cj : Value × Nat) => cs.setIfInBounds (off + cj.2) cj.1) cs)[q]? = if q < off + k then cs[q]? else if q < off + k + l.length then l[q - (off + k)]? else cs[q]?
 | [],k,off,cs,_ => ⟨by simp,fun q => by
   simp only [List.zipIdx_nil,List.foldl_nil,List.length_nil,Nat.add_zero]
   split <;> rfl⟩
 | v :: l,k,off,cs,h => by
   simp only [List.length_cons] at h;obtain ⟨a,b⟩:=zvQ l (k + 1) off (cs.setIfInBounds (off + k) v) (by simp; omega);simp only [List.zipIdx_cons,List.foldl_cons];refine ⟨by rw [a]; simp,fun q => ?_⟩;rw [b]
   by_cases c1 : q < off + k
   ·rw [if_pos (by omega),if_pos c1,yd,if_neg (by omega)]
   ·rw [if_neg c1]
    by_cases c2 : q = off + k
    ·subst c2
     rw [if_pos (by omega),if_pos (by simp),yd];simp;omega
    ·rw [if_neg (by omega)]
     by_cases c3 : q < off + k + (l.length + 1)
     ·rw [if_pos (by omega),if_pos (by simpa using c3),show q - (off + k) = q - (off + (k + 1)) + 1 from by omega]
      simp
     ·rw [if_neg (by omega),if_neg (by simpa using c3),yd,if_neg (by omega)]
theorem zt9 (l cs : Array Value) (off : Nat) (h : off + l.size ≤ cs.size) :
  (l.zipIdx.foldl (fun cs (cj : Value × Nat) => cs.setIfInBounds (off + cj.2) cj.1) cs).size = cs.size ∧
  ∀ q,(l.zipIdx.foldl (fun cs (cj : Value × Nat) => cs.setIfInBounds (off + cj.2) cj.1) cs)[q]? = if q < off then cs[q]? else if q < off + l.size then l.toList[q - off]? else cs[q]?:=by
 have:=zvQ l.toList 0 off cs (by simpa using h);rw [← Array.foldl_toList,Array.toList_zipIdx];simpa using this
theorem zxA {σ : zd} {cs b e : List C} {us us' : List Value} {es : List Value} {off : Nat} (h : zv g w σ cs us) (he : zv g w σ e es) (r : zEa cs off e = some b) (o : us'.length = us.length)
  (d : ∀ q,us'[q]? = if q < off then us[q]? else if q < off + es.length then es[q - off]? else us[q]?) : zv g w σ b us':=by
 obtain ⟨x,k,n⟩:=zpK r;have p:=zI he;refine zkK (by rw [o,k]; exact zI h) fun j c u a hu => ?_;rw [n] at a;rw [d] at hu
 have sub : ∀ {l : List C} {m : List Value} {j' : Nat},zv g w σ l m → l[j']? = some c → m[j']? = some u → zy g w σ c u:=fun i t f => by
  obtain ⟨y,s,v⟩:=zei i t;rw [s] at f;injection f with f;rw [← f]; exact v
 by_cases c1 : j < off
 ·rw [if_pos c1] at a hu; exact sub h a hu
 ·rw [if_neg c1] at a hu
  by_cases c2 : j < off + e.length
  ·rw [if_pos c2] at a
   rw [if_pos (by omega)] at hu;exact sub he a hu
  ·rw [if_neg c2] at a
   rw [if_neg (by omega)] at hu;exact sub h a hu
def zlL (κ : List Tmp) (loc : List (Option Tmp)) (place : Nat → Option (Nat × Nat)) : List (Nat × Operand) → List (Nat × Nat × X) → Bool
 | [],[] => true
 | (i,x) :: ps,(off,sz,y) :: qs => (place i == some (off,sz)) && decide (0 < sz) && okX κ loc x y && zlL κ loc place ps qs
 | _,_ => false
theorem zrq {place : Nat → Option (Nat × Nat)} (F : Fr κ loc nt g w r a) : ∀ (j : List (Nat × Operand)) (f : List (Nat × Nat × X)) (cells : Array Value) (cs b : List C),zlL κ loc place j f = true → zv g w r.st cs cells.toList → (∀ v ∈ cells.toList,v.oneCell' = true) →
  zm9 r f cs = some b → ∃ cells',Instr.fill place cells (j.map fun p => (p.1,a.eval p.2)) = some cells' ∧ zv g w r.st b cells'.toList ∧ ∀ v ∈ cells'.toList,v.oneCell' = true
 | [],[],cells,cs,b,_,h,h1,c => by
   simp only [zm9,Option.some.injEq] at c;subst c;exact ⟨cells,rfl,h,h1⟩
 | (i,x) :: j,(off,sz,y) :: f,cells,cs,b,hp,h,h1,c => by
   simp only [zlL,yr,beq_iff_eq,decide_eq_true_eq] at hp;obtain ⟨⟨⟨l,E⟩,u⟩,k⟩:=hp;simp only [zm9] at c;split at c
   ·rename_i A
    rw [yi] at c;obtain ⟨n,s,c⟩:=c;obtain ⟨t,D⟩:=zkt (F.get u) A.2 (by omega);have m:=zI t;simp only [yf] at m;obtain ⟨I,J,_⟩:=zpK s;have o:=zI h;simp only [yf] at o;obtain ⟨f1,f2⟩:=zt9 (a.eval x).cells cells off (by omega);have e:=zxA (us':=((a.eval x).cells.zipIdx.foldl (fun cs (cj : Value × Nat) => cs.setIfInBounds (off + cj.2) cj.1) cells).toList) h t s (by simpa using f1) (fun q => by simpa using f2 q)
    obtain ⟨cells',H,G,z⟩:=zrq F j f _ n b k e (fun v B => by
     obtain ⟨q,d⟩:=yn.1 B;rw [ye,f2] at d;split at d
     ·exact h1 v (yc (by rw [ye]; exact d))
     ·split at d
      ·exact D v (yc d)
      ·exact h1 v (yc (by rw [ye]; exact d))) c
    refine ⟨cells',?_,G,z⟩;simp only [yx,Instr.fill,l];rw [if_neg]
    ·exact H
    ·simp only [yu,decide_eq_true_eq,not_or]
     constructor
     ·simp; omega
     ·omega
   ·cases c
 | [],_ :: _,_,_,_,hp,_,_,_ => by simp [zlL] at hp
 | _ :: _,[],_,_,_,hp,_,_,_ => by simp [zlL] at hp
end
def zoy (P : Program) (t : TypeId) : Option (Nat → Option (Nat × Nat)) :=
 match P.underlying t with
 | some (.array _ e) => (P.info? e).map fun ie i => some (i * ie.size,ie.size)
 | some (.struct fields) => (fields.toList.mapM (fun f => (P.info? f.type).map fun i => (f.offset,i.size))).map fun places i => places.toArray[i]?
 | _ => none
section
variable {P : Program} {κ : List Tmp} {loc : List (Option Tmp)} {nt : Nat} {g : G} {w : World} {r r' : R} {a : Act} {o : Go.Oper} {d : D} {next : Act → World → Prop} {Q : Exit → Act → World → Prop}
theorem zxC (r : R) (os : List Ob) (x : X) : (r.allocs os).get x = r.get x:=by cases x <;> rfl
theorem znA (r : R) (os : List Ob) : ∀ (a : List (Nat × Nat × X)) (cs : List C),zm9 (r.allocs os) a cs = zm9 r a cs
 | [],_ => rfl
 | (off,sz,x) :: a,cs => by
   simp only [zm9,zxC]
   congr 1
   exact congrArg _ (funext fun c => znA r os a c)
theorem zCs {t : TypeId} {place : Nat → Option (Nat × Nat)} {f : List Value} {h : List (Nat × Value)} {cells : Array Value} (j : zeroOf P t = some f) (a : zoy P t = some place) (c : Instr.fill place f.toArray h = some cells) : P.built t h = some cells:=by
 obtain ⟨i,z,g,d,k⟩:=zda j;subst k;unfold zoy at a;unfold Program.built;split at a
 ·rename_i n e hu
  rw [yb] at a;obtain ⟨l,b,rfl⟩:=a;simp only [g,hu,d,b];simpa using c
 ·rename_i m hu
  rw [yb] at a;obtain ⟨pl,b,rfl⟩:=a;simp only [g,hu,d,b];simpa using c
 ·cases a
theorem zy5 (G : Rel g w r.st) (L : Low r.base r.lim r.st) (F : Fr κ loc nt g w r a) {t : TypeId} {parts : Array (Nat × Operand)} {b : List Value} {zero : List C} {fresh : List (Nat × Nat)} {place : Nat → Option (Nat × Nat)} {f : List (Nat × Nat × X)}
  (A : o.op = .build t parts) (hd : okD κ nt o.dst d = true) (y : zeroOf P t = some b) (z : zfm b zero = true) (q : zg8 b fresh = true) (l : zoy P t = some place) (H : zlL κ loc place parts.toList f = true)
  {r1 : R} (h : (zm9 r f (zf8 r.st.length fresh zero)).map (zEj r d fresh) = some r1) (k : zpE κ (za5 o.dst d :: loc) nt g w r r1 (a.put o.dst) next) : o.wp P a w next Q:=by
 rw [yb] at h;obtain ⟨j,h,rfl⟩:=h;obtain ⟨c,e⟩:=zav (g:=g) (w:=w) (σ:=r.st) z;obtain ⟨p,H1,v,m⟩:=zsz fresh G q c;have D : Fr κ loc nt p w (r.allocs (tokens fresh)) a:=F.ext H1 rfl rfl;obtain ⟨cells,B,E,_⟩:=zrq (place:=place) D parts.toList f b.toArray _ j H (show zv p w (r.st ++ tokens fresh) _ b from m) (by simpa using e) (by rw [znA]; exact h);have s:=zCs y l B;refine zbx (r1:=r.allocs (tokens fresh)) F hd H1 v (L.append _) rfl rfl (u:=.agg cells) ?_ ?_ k
 ·unfold execOp
  have n : P.built t (parts.map fun (i,x) => (i,a.eval x)).toList = some cells:=by simpa using s
  simp only [A,Sem.run_bind,run_build w t _ cells n,Result.andThen_ok,Sem.run_pure]
 ·simp only [zf]
  exact ⟨cells,rfl,E⟩
theorem zka {σ : zd} {zc : Array Value} {sz : Nat} {es : List (List C)} (k : zc.size = sz) (r : 0 < sz) (h : ∀ e ∈ es,zv g w σ e zc.toList) (p : ∀ u ∈ zc.toList,u.oneCell' = true) : zca g w σ ((yv (es.length * sz)).map (zc[· % zc.size]!)) sz es:=fun i e m => by
 have b:=h e (yc m);have l:=zI b;simp only [yf,k] at l;refine ⟨l.symm,fun j c n => ?_⟩;obtain ⟨u,d,q⟩:=zei b n;have o : j < sz:=by have:=zb n; omega
 refine ⟨u,?_,q,p u (yc d)⟩;have f:=inside (zb m) o;rw [Array.getElem?_map,yk (by simpa using f)];simp only [Array.getElem_range,Option.map_some];have a : (i * sz + j) % zc.size = j:=by rw [k,Nat.mul_comm,Nat.mul_add_mod,Nat.mod_eq_of_lt o]
 rw [a];rw [ye] at d;rw [getElem!_pos zc j (by omega)];rw [yk (by omega)] at d;exact d
def ziI (κ : List Tmp) (loc : List (Option Tmp)) : List (Nat × Operand) → List (Nat × X) → Bool
 | [],[] => true
 | (i,x) :: ps,(j,y) :: qs => (i == j) && okX κ loc x y && ziI κ loc ps qs
 | _,_ => false
theorem zpB (F : Fr κ loc nt g w r a) {sz : Nat} (B : 0 < sz) : ∀ (k : List (Nat × Operand)) (f : List (Nat × X)) (cells : Array Value) (es es' : List (List C)),ziI κ loc k f = true → cells.size = es.length * sz → zca g w r.st cells sz es →
  zn9 r sz f es = some es' → ∃ cells',Instr.fill (fun i => some (i * sz,sz)) cells (k.map fun p => (p.1,a.eval p.2)) = some cells' ∧ cells'.size = es'.length * sz ∧ zca g w r.st cells' sz es' ∧ es'.length = es.length
 | [],[],cells,es,es',_,hs,h,hf => by
   simp only [zn9,Option.some.injEq] at hf;subst hf;exact ⟨cells,rfl,hs,h,rfl⟩
 | (i,x) :: k,(j,y) :: f,cells,es,es',hp,hs,h,hf => by
   simp only [ziI,yr,beq_iff_eq] at hp;obtain ⟨⟨rfl,v⟩,m⟩:=hp;simp only [zn9] at hf;split at hf
   ·rename_i E
    obtain ⟨c1,c2,c3⟩:=E;obtain ⟨t,H⟩:=zkt (F.get v) c3 (by omega);have n:=zI t;simp only [yf] at n;have s:=zzp (q:=sz) c1 (ym sz);obtain ⟨f1,f2⟩:=zt9 (a.eval x).cells cells (i * sz) (by omega)
    obtain ⟨cells',J,I,A,G⟩:=zpB F B k f _ _ es' m (by rw [f1,hs]; simp) (fun o e b => by
     rw [List.getElem?_set] at b
     by_cases e1 : i = o
     ·subst e1
      simp [c1] at b;subst b;refine ⟨c2,fun j c d => ?_⟩;obtain ⟨u,m1,m2⟩:=zei t d;have l:=zb d;refine ⟨u,?_,m2,H u (yc m1)⟩;rw [f2,if_neg (by omega),if_pos (by omega),Nat.add_sub_cancel_left];exact m1
     ·rw [if_neg e1] at b
      obtain ⟨z,m1⟩:=h o e b;refine ⟨z,fun j c d => ?_⟩;obtain ⟨u,m2,D,K⟩:=m1 j c d;have l:=zb d;refine ⟨u,?_,D,K⟩;rw [f2];split
      ·exact m2
      ·split
       ·exfalso
        have:=apart (q:=o * sz + j - i * sz) (sz:=sz) e1 (by omega : j < sz) (by omega);omega
       ·exact m2) hf
    refine ⟨cells',?_,I,A,by rw [G]; simp⟩;simp only [yx,Instr.fill];rw [if_neg]
    ·exact J
    ·simp only [yu,decide_eq_true_eq,not_or]
     constructor
     ·simp; omega
     ·omega
   ·cases hf
 | [],_ :: _,_,_,_,hp,_,_,_ => by simp [ziI] at hp
 | _ :: _,[],_,_,_,hp,_,_,_ => by simp [ziI] at hp
theorem zgM {σ : zd} {c : C} {x : Fz} {u : Value} (h : ztr c = some x) (a : zy g w σ c u) : rep w g.N x u:=by
 unfold ztr at h;split at h
 ·injection h with h; subst h; simpa only [zy] using a
 ·injection h with h; subst h; simp only [zy] at a; exact a.1
 ·cases h
theorem zfJ {α : Type} {x : Option α} {xs : Option (List α)} {ys : List α} (h : zfF x xs = some ys) : ∃ y z,x = some y ∧ xs = some z ∧ ys = y :: z:=by
 unfold zfF at h;split at h
 ·injection h with h; exact ⟨_,_,rfl,rfl,h.symm⟩
 ·cases h
theorem zfY : ∀ {cs : List C} {xs : List Fz},zdR cs = some xs → xs.length = cs.length ∧ ∀ (j : Nat) (x : Fz),xs[j]? = some x → ∃ c,cs[j]? = some c ∧ ztr c = some x
 | [],xs,h => by
   simp only [zdR,Option.some.injEq] at h;subst h;exact ⟨rfl,fun j x a => by simp at a⟩
 | c :: cs,xs,h => by
   simp only [zdR] at h;obtain ⟨y,z,b,e,rfl⟩:=zfJ h;obtain ⟨l,d⟩:=zfY e;refine ⟨by simp [l],fun j x a => ?_⟩
   cases j with
   | zero => simp at a; subst a; exact ⟨c,by simp,b⟩
   | succ j => simpa using d j x (by simpa using a)
theorem zfb : ∀ {es : List (List C)} {xs : List (List Fz)},zaf es = some xs → xs.length = es.length ∧ ∀ (i : Nat) (x : List Fz),xs[i]? = some x → ∃ e,es[i]? = some e ∧ zdR e = some x
 | [],xs,h => by
   simp only [zaf,Option.some.injEq] at h;subst h;exact ⟨rfl,fun j x a => by simp at a⟩
 | c :: cs,xs,h => by
   simp only [zaf] at h;obtain ⟨y,z,b,f,rfl⟩:=zfJ h;obtain ⟨l,d⟩:=zfb f;refine ⟨by simp [l],fun j x a => ?_⟩
   cases j with
   | zero => simp at a; subst a; exact ⟨c,by simp,b⟩
   | succ j => simpa using d j x (by simpa using a)
theorem zoQ {σ : zd} {arr : Array Value} {sz : Nat} {es : List (List C)} {xs : List (List Fz)} (m : arr.size = es.length * sz) (h : zca g w σ arr sz es) (n : zaf es = some xs) : Lay w g.N sz xs arr.toList:=by
 obtain ⟨l,k⟩:=zfb n;refine ⟨by simp [m,l],zeW fun e he => ?_,fun i e b j x p => ?_⟩
 ·obtain ⟨i,b⟩:=yn.1 he
  obtain ⟨f,d,a⟩:=k i e b;rw [(zfY a).1];exact (h i f d).1
 ·obtain ⟨f,d,a⟩:=k i e b
  obtain ⟨c,q,r⟩:=(zfY a).2 j x p;obtain ⟨u,m1,m2,o⟩:=(h i f d).2 j c q;exact ⟨u,by simpa using m1,zgM r m2,o⟩
theorem ziH {σ : zd} {sz : Nat} {xs : List (List Fz)} {us : List Value} (h : Lay w g.N sz xs us) : zca g w σ us.toArray sz (xs.map fun e => e.map C.f):=fun i e a => by
 rw [yq,yb] at a;obtain ⟨x,b,rfl⟩:=a;refine ⟨by simpa using zbS h.2.1 b,fun j c d => ?_⟩;rw [yq,yb] at d;obtain ⟨y,m,rfl⟩:=d;obtain ⟨u,n,l,k⟩:=h.2.2 i x b j y m;exact ⟨u,by simpa using n,by simpa only [zy] using l,k⟩
def zyg (zs : List Value) (zero : List (List C)) : Bool:=zero.all fun e => zfm zs e
theorem zAf (N : Rel g w r.st) (L : Low r.base r.lim r.st) (F : Fr κ loc nt g w r a) {t e : TypeId} {len sz : Nat} {parts : Array (Nat × Operand)} {A : List Value} {zero : List (List C)} {I : List (Nat × X)} {b : B}
  (ho : o.op = .buildSlice t len parts) (hd : okD κ nt o.dst d = true) (Z : P.underlying t = some (.slice e)) (V : zjo P e = some sz) (W : 0 < sz) (hlen : zero.length = len) (Y : len * sz ≤ 16777216) (hz : zeroOf P e = some A) (K : A.length = sz) (y : A.all Value.oneCell' = true) (hc : zyg A zero = true) (hp : ziI κ loc parts.toList I = true)
  {r1 : R} (h : (zn9 r sz I zero).bind (zvN r d sz b) = some r1) (k : zpE κ (za5 o.dst d :: loc) nt g w r r1 (a.put o.dst) next) : o.wp P a w next Q:=by
 subst hlen;rw [yi] at h;obtain ⟨es',h,c⟩:=h;obtain ⟨i,z,D,h2,h3⟩:=zda hz;subst h3;have M : z.cells.size = sz:=by simpa using K
 have G : ∀ u ∈ z.cells.toList,u.oneCell' = true:=fun u hu => yt.1 y u hu;have n:=zka (g:=g) (w:=w) (σ:=r.st) (zc:=z.cells) (es:=zero) M W (fun e he => (zav (yt.1 hc e he)).1) G;obtain ⟨cells,k1,E,S,k4⟩:=zpB F W parts.toList I _ zero es' hp (by simp) n h;have hn : es'.length = zero.length:=k4
 have f : (execOp a.eval o).run P w = .ok (.value (.slice (some ⟨w.heap.size,0,none⟩) es'.length es'.length)) (w.alloc (.cells cells e)):=by
  unfold zjo at V;have v : i.size = sz:=by simpa [D] using V
  have p : ¬ (16777216 < zero.length * sz):=by omega
  have j : Instr.fill (fun i => some (i * sz,sz)) ((yv (zero.length * sz)).map (z.cells[· % z.cells.size]!)) (parts.map fun (i,x) => (i,a.eval x)).toList = some cells:=by simpa using k1
  unfold execOp;simp only [ho]
  by_cases m : zero.length = 0
  ·have J : (yv (zero.length * sz)).map (z.cells[· % z.cells.size]!) = (yv (zero.length * sz)).map ((#[] : Array Value)[· % (#[] : Array Value).size]!):=by simp [m,Array.range_zero']
   rw [J] at j;simp [Instr.buildSlice,run_underlying Z,sizeOf,typeInfo,D,v,m,newRow,hn];simp [m] at j;simp [j]
  ·have U : ¬ (zero.length * sz = 0):=Nat.mul_ne_zero m (by omega)
   simp [Instr.buildSlice,run_underlying Z,sizeOf,typeInfo,D,v,p,U,zdh (w:=w) D h2,newRow,hn];simp at j;simp [j]
 have O : cells = cells.toList.toArray:=by simp
 rw [O] at f
 cases b with
 | fz =>
   simp only [zvN,yb] at c;obtain ⟨xs,c,rfl⟩:=c;have l:=zoQ E S c;rw [← (zfb c).1] at f;obtain ⟨g',H,q,s⟩:=zCz N e l;exact zbx (r1:=r) F hd H q L rfl rfl f s k
 | tk =>
   simp only [zvN,yb] at c;obtain ⟨xs,c,rfl⟩:=c;have l:=zoQ E S c;rw [← (zfb c).1] at f;obtain ⟨g',H,q,s⟩:=zz1 N e l;exact zbx (r1:=r.alloc (.tok sz [xs.length])) F hd H q (L.append _) rfl rfl f s k
 | rw =>
   simp only [zvN,Option.some.injEq] at c;subst c;obtain ⟨H,q⟩:=zgL (sz:=sz) (es:=es') N e (us:=cells.toList) (by simpa using E) (by simpa using S);have s:=zmO (g:=g) (w:=w) (σ:=r.st) (sz:=sz) (es:=es') (us:=cells.toList) e (by simpa using E);exact zbx (r1:=r.alloc (.cells 0 sz es')) F hd H q (L.append _) rfl rfl f s k
end
section
variable {P : Program} {κ : List Tmp} {loc : List (Option Tmp)} {nt : Nat} {g : G} {w : World} {r r' : R} {a : Act} {o : Go.Oper} {d : D} {next : Act → World → Prop} {Q : Exit → Act → World → Prop}
theorem zzx {σ : zd} {sz : Nat} {f : Nat → Value} (fr : List Nat) {k : Nat} (b : fr[k]? = some 0) (a : f k = .slice none 0 0) : zy (g.nils σ.length f) w (σ ++ [.tok sz fr]) (.ap σ.length k []) (.slice none 0 0):=by
 rw [zy];exact ⟨zsi,0,zdG (sz:=sz) (fr:=fr) (by simp) b,ym _,fun _ => by rw [G.nils_tv,a],sz,zb9 (fr:=fr) (by simp),by simp only [zbO]⟩
theorem zv2 (i : Rel g w r.st) (L : Low r.base r.lim r.st) (F : Fr κ loc nt g w r a) {b : B} {sz : Nat} (j : o.op = .move (.const (.slice none 0 0)) ∨ o.op = .assign (.const (.slice none 0 0))) (hd : okD κ nt o.dst d = true)
  {r1 : R} (h : anl r d sz b = some r1) (k : zpE κ (za5 o.dst d :: loc) nt g w r r1 (a.put o.dst) next) : o.wp P a w next Q:=by
 have c:=zrE (P:=P) (w:=w) (a:=a) j
 cases b with
 | fz =>
   simp only [anl,Option.some.injEq] at h;subst h;exact zl7 i L F hd c (by simpa only [vsl,zf,zy,Act.eval] using zsi) k
 | tk =>
   simp only [anl,Option.some.injEq] at h;subst h
   obtain ⟨H,f⟩:=zr7 i sz [0] (fun _ => .slice none 0 0) (fun k n e => ⟨by
    cases k with
    | zero => simp at e; exact e.symm
    | succ k => simp at e,none,rfl⟩)
   exact zbx (r1:=r.alloc (.tok sz [0])) F hd H f (L.append _) rfl rfl c (by simp only [zf]; exact zzx (sz:=sz) [0] (by simp) rfl) k
 | rw =>
   simp only [anl,Option.some.injEq] at h;subst h;obtain ⟨H,f⟩:=zoE i sz;refine zbx (r1:=r.alloc (.cells 0 sz [])) F hd H f (L.append _) rfl rfl c ?_ k;simp only [zf,zy,Act.eval];exact ⟨0,sz,0,zt (zkq _ _),ym _,fun _ => ⟨none,0,rfl,ym _,fun _ => rfl,fun h => absurd rfl h⟩,_,_,rfl⟩
theorem zoL {t e : TypeId} {i : TypeInfo} {z : Value} (d : P.underlying t = some (.slice e)) (c : P.info? e = some i) (f : i.zero = some z) {a : IntKind} {k : Int} (b : 0 ≤ k) (g : k ≤ LIM) (j : i.bytes ≤ 32768) :
  (Instr.makeSlice t (.int a k) (.int a k)).run P w = .ok (.slice (some ⟨w.heap.size,0,none⟩) k.toNat k.toNat) (w.alloc (.cells (madeCells z.cells (k.toNat * i.size)) e)):=by
 unfold LIM at g;refine run_make w t e i z d c f a a k k b (yy _) ?_ (by omega);have h : (i.bytes : Int) * k ≤ 32768 * k:=yg (by omega) b;omega
theorem zz4 (N : Rel g w r.st) (L : Low r.base r.lim r.st) (F : Fr κ loc nt g w r a) {t e : TypeId} {x : Operand} {sz : Nat} {i : TypeInfo} {B : List Value} {zero : List C} {fresh : Option (Nat × Nat)}
  (ho : o.op = .makeSlice t x x) (hd : okD κ nt o.dst d = true) (ht : P.underlying t = some (.slice e)) (K : P.info? e = some i) (W : i.bytes ≤ 32768) (S : i.size = sz) (I : 0 < sz) (Z : zeroOf P e = some B) (v : B.length = sz) (hc : zfm B zero = true)
  (U : ∀ j,fresh = some j → B[j.1]? = some (.slice none 0 0)) {J : V} (G : zf g w r.st J (a.eval x)) {r1 : R} (h : zEg r d zero fresh J = some r1) (k : zpE κ (za5 o.dst d :: loc) nt g w r r1 (a.put o.dst) next) : o.wp P a w next Q:=by
 obtain ⟨i',z,D,X,h3⟩:=zda Z;rw [K] at D;injection D with D;subst D;subst h3;have A : z.cells.size = sz:=by simpa using v
 obtain ⟨f,s⟩:=zav (g:=g) (w:=w) (σ:=r.st) hc;have p : zero.length = sz:=by rw [← zI f]; exact v
 have c : ∀ l m,a.eval x = .int l m → 0 ≤ m → m ≤ LIM → (execOp a.eval o).run P w = .ok (.value (.slice (some ⟨w.heap.size,0,none⟩) m.toNat m.toNat)) (w.alloc (.cells (madeCells z.cells (m.toNat * sz)).toList.toArray e)):=fun l m ex Y m1 => by
  unfold execOp;simp only [ho,ex,Sem.run_bind,zoL (P:=P) (w:=w) ht K X Y m1 W,Result.andThen_ok,Sem.run_pure,S]
 unfold zEg at h;split at h
 ·rename_i l m
  obtain ⟨ex,_⟩:=zM G;split at h
  ·rename_i hm
   injection h with h;subst h;rw [p] at k;have hlen : (ya m.toNat zero).length = m.toNat:=(by simp);have u : (madeCells z.cells (m.toNat * sz)).toList.length = (ya m.toNat zero).length * sz:=by simp [size_madeCells]
   have b : zca g w r.st (madeCells z.cells (m.toNat * sz)).toList.toArray sz (ya m.toNat zero):=by
    have:=zka (g:=g) (w:=w) (σ:=r.st) (es:=ya m.toNat zero) A I (fun e he => by rw [(yp.1 he).2]; exact f) s;rw [hlen] at this;rw [yj];exact this
   obtain ⟨H,E⟩:=zgL N e u b;have y:=zmO (g:=g) (w:=w) (σ:=r.st) e u;rw [hlen] at y;exact zbx (r1:=r.alloc (.cells 0 sz (ya m.toNat zero))) F hd H E (L.append _) rfl rfl (c l m ex hm.1 hm.2) y k
  ·cases h
 ·rename_i j l m
  obtain ⟨ex,_⟩:=zM G;split at h
  ·rename_i hm
   injection h with h;subst h;rw [p] at k;obtain ⟨H1,E⟩:=zr7 N j.2 (ya m.toNat 0) (fun _ => .slice none 0 0) (fun q n hn => ⟨(yp.1 (yc hn)).2,none,rfl⟩);have hlen : ((yh m.toNat).map (nest r.st.length zero j.1)).length = m.toNat:=(by simp);have u : (madeCells z.cells (m.toNat * sz)).toList.length = ((yh m.toNat).map (nest r.st.length zero j.1)).length * sz:=by simp [size_madeCells]
   have b : zca (g.nils r.st.length fun _ => .slice none 0 0) w (r.st ++ [.tok j.2 (ya m.toNat 0)]) (madeCells z.cells (m.toNat * sz)).toList.toArray sz ((yh m.toNat).map (nest r.st.length zero j.1)):=by
    have:=zka (g:=g.nils r.st.length fun _ => .slice none 0 0) (w:=w) (σ:=r.st ++ [.tok j.2 (ya m.toNat 0)]) (es:=(yh m.toNat).map (nest r.st.length zero j.1)) A I (fun e he => by
     obtain ⟨q,M,rfl⟩:=yz.1 he;rw [yw] at M
     exact zma (H1.zv _ _ f) (U j rfl) (zzx _ (by simp [List.getElem?_replicate,M]) rfl)) s
    rw [hlen] at this;rw [yj];exact this
   obtain ⟨H,O⟩:=zgL E e u b;have y:=zmO (g:=g.nils r.st.length fun _ => .slice none 0 0) (w:=w) (σ:=r.st ++ [.tok j.2 (ya m.toNat 0)]) e u;rw [hlen] at y;refine zbx (r1:=r.allocs [.tok j.2 (ya m.toNat 0),.cells 0 sz ((yh m.toNat).map (nest r.st.length zero j.1))]) F hd (H1.trans (by simpa [R.allocs] using H)) (by simpa [R.allocs] using O) (L.append _) rfl rfl (c l m ex hm.1 hm.2) (by simpa [R.allocs] using y) k
  ·cases h
 ·cases h
theorem ztH {σ : zd} (R : Rel g w σ) (sz : Nat) : ∀ n : Nat,∃ g',Ext g w σ g' w (σ ++ ya n (.cells 0 sz [])) ∧ Rel g' w (σ ++ ya n (.cells 0 sz []))
 | 0 => ⟨g,by simpa using Ext.refl g w σ,by simpa using R⟩
 | n + 1 => by
   obtain ⟨d,H1,c⟩:=ztH R sz n;obtain ⟨b,a⟩:=zoE c sz;refine ⟨_,H1.trans (by simpa [yo] using b),by simpa [yo] using a⟩
theorem zzT (R0 : Rel g w r.st) (L : Low r.base r.lim r.st) (F : Fr κ loc nt g w r a) {t e : TypeId} {x : Operand} {sz b : Nat} {i : TypeInfo} {s : List Value} {zero : List C} {j : Nat}
  (ho : o.op = .makeSlice t x x) (hd : okD κ nt o.dst d = true) (ht : P.underlying t = some (.slice e)) (J : P.info? e = some i) (U : i.bytes ≤ 32768) (N : i.size = sz) (h0 : 0 < sz) (Z : zeroOf P e = some s) (n : s.length = sz) (hc : zfm s zero = true)
  (O : s[j]? = some (.slice none 0 0)) {I : V} (S : zf g w r.st I (a.eval x)) {r1 : R} (h : zFc r d zero j b I = some r1) (k : zpE κ (za5 o.dst d :: loc) nt g w r r1 (a.put o.dst) next) : o.wp P a w next Q:=by
 obtain ⟨i',z,u,X,h3⟩:=zda Z;rw [J] at u;injection u with u;subst u;subst h3;have E : z.cells.size = sz:=by simpa using n
 obtain ⟨f,A⟩:=zav (g:=g) (w:=w) (σ:=r.st) hc;have y : zero.length = sz:=by rw [← zI f]; exact n
 have l : ∀ p m,a.eval x = .int p m → 0 ≤ m → m ≤ LIM → (execOp a.eval o).run P w = .ok (.value (.slice (some ⟨w.heap.size,0,none⟩) m.toNat m.toNat)) (w.alloc (.cells (madeCells z.cells (m.toNat * sz)).toList.toArray e)):=fun p m ex Y m1 => by
  unfold execOp;simp only [ho,ex,Sem.run_bind,zoL (P:=P) (w:=w) ht J X Y m1 U,Result.andThen_ok,Sem.run_pure,N]
 unfold zFc at h;split at h
 ·rename_i p m
  obtain ⟨ex,_⟩:=zM S;split at h
  ·rename_i hm
   injection h with h;subst h;rw [y] at k;obtain ⟨v,H1,W⟩:=ztH R0 b m.toNat;have hlen : ((yh m.toNat).map (zqh r.st.length zero j)).length = m.toNat:=(by simp);have G : (madeCells z.cells (m.toNat * sz)).toList.length = ((yh m.toNat).map (zqh r.st.length zero j)).length * sz:=by simp [size_madeCells]
   have c : zca v w (r.st ++ ya m.toNat (.cells 0 b [])) (madeCells z.cells (m.toNat * sz)).toList.toArray sz ((yh m.toNat).map (zqh r.st.length zero j)):=by
    have:=zka (g:=v) (w:=w) (σ:=r.st ++ ya m.toNat (.cells 0 b [])) (es:=(yh m.toNat).map (zqh r.st.length zero j)) E h0 (fun e he => by
     obtain ⟨q,K,rfl⟩:=yz.1 he;rw [yw] at K
     exact zma (H1.zv _ _ f) O (zzA K v)) A
    rw [hlen] at this;rw [yj];exact this
   obtain ⟨H,M⟩:=zgL W e G c;have D:=zmO (g:=v) (w:=w) (σ:=r.st ++ ya m.toNat (.cells 0 b [])) e G;rw [hlen] at D;have B : (r.st ++ ya m.toNat (Ob.cells 0 b [])).length = r.st.length + m.toNat:=(by simp);rw [B] at D;refine zbx (r1:=r.allocs (ya m.toNat (.cells 0 b []) ++ [.cells 0 sz ((yh m.toNat).map (zqh r.st.length zero j))])) F hd (H1.trans (by simpa [R.allocs] using H)) (by simpa [R.allocs] using M) (L.append _) rfl rfl (l p m ex hm.1 hm.2) (by simpa [R.allocs] using D) k
  ·cases h
 ·cases h
theorem zAj (i : Rel g w r.st) (L : Low r.base r.lim r.st) (F : Fr κ loc nt g w r a) {t : TypeId} (e : o.op = .makeMap t none) (hd : okD κ nt o.dst d = true)
  (k : zpE κ (za5 o.dst d :: loc) nt g w r ((r.alloc (.mp [])).put d (.one (.map r.st.length))) (a.put o.dst) next) : o.wp P a w next Q:=by
 obtain ⟨H,f⟩:=ztK i (.mp []) (.map #[] 0) fun H b h c => ⟨by rw [b]; exact h,by rw [b]; exact c,#[],0,by rw [b]; exact zbd w _,⟨[],.nil,by simp,rfl⟩,by simp,by simp⟩;refine zbx (r1:=r.alloc (.mp [])) F hd H f (L.append _) rfl rfl (u:=.map (some w.heap.size)) ?_ ?_ k
 ·unfold execOp
  simp [e,Instr.makeMap]
 ·simp only [zf,zy]
  exact ⟨⟨[],zkq _ _⟩,by simp [G.own]⟩
theorem zxp {σ : zd} (l : Rel g w σ) {sz c : Nat} {cur : Array Value} (t : TypeId) (v : cur.size = c * sz) :
  ∃ g',Ext g w σ g' (w.alloc (.cells cur t)) (σ ++ [.tok sz [0]]) ∧ Rel g' (w.alloc (.cells cur t)) (σ ++ [.tok sz [0]]) ∧
    zf g' (w.alloc (.cells cur t)) (σ ++ [.tok sz [0]]) (.one (.ap σ.length 0 [])) (.slice (some ⟨w.heap.size,0,none⟩) 0 c):=by
 let g' : G:={ g with tv:=fun a k => if a = σ.length then .slice (some ⟨w.heap.size,0,none⟩) 0 c else g.tv a k,ow:=zxW g.ow w.heap.size (.tk σ.length 0) }
 have j : ∀ b,b < w.heap.size → g'.ow b = g.ow b:=fun b q => zaH g.ow (k:=w.heap.size) (i:=b) _ (by omega)
 have f : ∀ a k,a < σ.length → g'.tv a k = g.tv a k:=fun a k h => by
  show (if a = σ.length then _ else g.tv a k) = _
  rw [if_neg (by omega)]
 have d : ∀ k,g'.tv σ.length k = .slice (some ⟨w.heap.size,0,none⟩) 0 c:=fun k => by
  show (if σ.length = σ.length then _ else _) = _
  rw [if_pos rfl]
 have H : Ext g w σ g' (w.alloc (.cells cur t)) (σ ++ [.tok sz [0]]) :=
  Ext.alloc l _ g' (fun _ _ => rfl) (fun a k n h => f a k (by obtain ⟨_,_,x,_⟩:=zcR h; exact zb x)) j (fun _ _ _ => Iff.rfl) _
 have s:=zbd w (.cells cur t);refine ⟨g',H,⟨fun b o h => ?_,fun id o h => ?_⟩,?_⟩
 ·rw [size_alloc]
  have:=l.nb b o h;omega
 ·by_cases e : id < σ.length
  ·rw [List.getElem?_append_left e] at h
   exact zcS H rfl (fun k => f id k e) (fun b q _ => ⟨heap_alloc_old w _ q,j b q,fun _ h => h⟩) (l.ob id o h)
  ·have p : id = σ.length:=by
    have:=zb h;simp at this;omega
   subst p;simp at h;subst h;intro k n u
   cases k with
   | succ k => simp at u
   | zero =>
     simp at u;subst u;rw [d];rcases Nat.eq_zero_or_pos c with r | r
     ·exact .inl ⟨rfl,_,by rw [r]⟩
     ·exact .inr ⟨_,_,_,cur,t,rfl,r,yA _,zgX _ _ _,s,by simp [v],fun y m => absurd (l.nb _ _ m) (Nat.lt_irrefl _)⟩
 ·simp only [zf,zy,rep]
  exact ⟨⟨_,c,sz,rfl,yA _,by simp only [zbO],.inl trivial⟩,0,zdG (sz:=sz) (fr:=[0]) (by simp) (by simp),ym _,fun _ => (d 0).symm,sz,zb9 (fr:=[0]) (by simp),by simp only [zbO]⟩
theorem zyc (C : Rel g w r.st) (L : Low r.base r.lim r.st) (F : Fr κ loc nt g w r a) {t e : TypeId} {x : Operand} {f : IntKind} {sz : Nat} {i : TypeInfo} {z : Value}
  (y : o.op = .makeSlice t (.const (.int f 0)) x) (hd : okD κ nt o.dst d = true) (B : P.underlying t = some (.slice e)) (v : P.info? e = some i) (D : i.bytes ≤ 32768) (l : i.size = sz) (s : i.zero = some z)
  {j : V} (n : zf g w r.st j (a.eval x)) {r1 : R} (h : zFh r d sz j = some r1) (k : zpE κ (za5 o.dst d :: loc) nt g w r r1 (a.put o.dst) next) : o.wp P a w next Q:=by
 unfold zFh at h;split at h
 ·rename_i p m
  obtain ⟨ex,_⟩:=zM n;split at h
  ·rename_i hm
   injection h with h;subst h;have u : m ≤ LIM:=hm.2;unfold LIM at u
   have b:=run_make (P:=P) w t e i z B v s f p 0 m (yy _) hm.1 (by
    have E : (i.bytes : Int) * m ≤ 32768 * m:=yg (by omega) hm.1
    omega) (by omega)
   simp only [Int.toNat_zero] at b;obtain ⟨g',H,q,A⟩:=zxp (c:=m.toNat) (sz:=sz) (cur:=madeCells z.cells (m.toNat * i.size)) C e (by rw [size_madeCells,l]);refine zbx (r1:=r.alloc (.tok sz [0])) F hd H q (L.append _) rfl rfl ?_ A k;unfold execOp;have e0 : a.eval (.const (.int f 0)) = .int f 0:=rfl;simp only [y,ex,e0,Sem.run_bind,b,Result.andThen_ok,Sem.run_pure]
  ·cases h
 ·cases h
end
end Go.A

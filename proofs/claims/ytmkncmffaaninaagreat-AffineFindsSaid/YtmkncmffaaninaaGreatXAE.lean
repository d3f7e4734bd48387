/- A part of the proof of AffineFinds. Conditions: none. -/
import Derived.Test.YtmkncmffaaninaaGreatXAD
set_option linter.all false
open Option renaming map_eq_some_iff → ya,bind_eq_some_iff → yh
open List renaming mem_of_getElem? → yb,replicate → yc,append_assoc → yj,mem_iff_getElem? → yl,mem_replicate → yn,range → yo,getElem?_map → yp,all_eq_true → yr,map_cons → yv
open Array renaming getElem?_setIfInBounds → yd,getElem?_toList → ye,length_toList → yf,getElem?_eq_getElem → yi,toArray_toList → ym,range → yu
open Int renaming mul_le_mul_of_nonneg_right → yg,le_refl → yw
open Nat renaming le_refl → yk,zero_le → yx
open Bool renaming and_eq_true → yq,or_eq_true → yt
namespace Go.A
section
variable {P : Program} {κ : List Tmp} {loc : List (Option Tmp)} {nt : Nat} {g : G} {w : World} {r r' : R} {a : Act} {o : Go.Oper} {d : D} {next : Act → World → Prop} {Q : Exit → Act → World → Prop}
theorem zc5 {t : TypeId} {b : List Value} (h : zeroOf P t = some b) : ∃ i z,P.info? t = some i ∧ i.zero = some z ∧ z.cells.toList = b:=by
 unfold zeroOf at h;rw [ya] at h;obtain ⟨z,a,d⟩:=h;rw [yh] at a;obtain ⟨i,a,c⟩:=a;exact ⟨i,z,a,c,d⟩
theorem zco {t : TypeId} {i : TypeInfo} {z : Value} (a : P.info? t = some i) (b : i.zero = some z) : (zeroValue t).run P w = .ok z w:=by simp [zeroValue,typeInfo,a,b]
theorem zDw (B : Rel g w r.st) (L : Low r.base r.lim r.st) (F : Fr κ loc nt g w r a) {t : TypeId} {b : List Value} {zero : List C} {fresh : List (Nat × Nat)} (A : o.op = .alloc t) (hd : okD κ nt o.dst d = true) (p : zeroOf P t = some b) (y : zgm b zero = true) (s : zjM b fresh = true)
  (k : zrj κ (zbp o.dst d :: loc) nt g w r (aal r d zero fresh) (a.put o.dst) next) : o.wp P a w next Q:=by
 obtain ⟨i,z,E,n,q⟩:=zc5 p;obtain ⟨h,l⟩:=za3 (g:=g) (w:=w) (σ:=r.st) y;obtain ⟨v,H1,D,f⟩:=zsV fresh B s h;have c:=zQ f;rw [zjv] at c
 obtain ⟨x,m⟩:=ziZ (sz:=zero.length) (es:=[zgP r.st.length fresh zero]) (us:=b) D t (by simp [c]) (by
  have:=zoG f l
  rwa [zjv] at this)
 have j : (r.st ++ tokens fresh).length = r.st.length + fresh.length:=by simp [zjF]
 have e : aal r d zero fresh = (r.allocs (tokens fresh ++ [.cells 0 zero.length [zgP r.st.length fresh zero]])).put d (.one (.ptr (r.st.length + fresh.length) 0 0 0)):=rfl;rw [e] at k;refine zcy (r1:=r.allocs (tokens fresh ++ [.cells 0 zero.length [zgP r.st.length fresh zero]])) F hd (H1.trans (by simpa [R.allocs,yj] using x)) (by simpa [R.allocs,yj] using m) (L.append _) rfl rfl (u:=.pointer (some ⟨w.heap.size,0,none⟩)) ?_ ?_ k
 ·unfold execOp
  simp only [A];have : z.cells = b.toArray:=by rw [← q]
  simp [Instr.alloc,zco (w:=w) E n,newVar,newRow,this]
 ·have:=zvm (g:=v) (w:=w) (σ:=r.st ++ tokens fresh) (sz:=zero.length) (es:=[zgP r.st.length fresh zero]) (.cells b.toArray t)
  rw [j] at this;simpa [R.allocs,yj,zjF] using this
theorem zB5 (j : Rel g w r.st) (L : Low r.base r.lim r.st) (F : Fr κ loc nt g w r a) {t : TypeId} {x : Operand} {sz : Nat} (l : o.op = .box t x) (hd : okD κ nt o.dst d = true) (i : 0 < sz)
  {b : V} (h : zh g w r.st b (a.eval x)) (f : b.cells.length = sz) (m : C.kns b.cells = true)
  (k : zrj κ (zbp o.dst d :: loc) nt g w r ((r.alloc (.cells 0 sz [b.cells])).put d (.one (.ptr r.st.length 0 0 0))) (a.put o.dst) next) : o.wp P a w next Q:=by
 subst f;obtain ⟨c,p⟩:=zjc h m i;obtain ⟨n,e⟩:=ziZ (sz:=b.cells.length) (es:=[b.cells]) j t (by simp [zQ c]) (zoG c p);refine zcy (r1:=r.alloc (.cells 0 b.cells.length [b.cells])) F hd n e (L.append _) rfl rfl (u:=.pointer (some ⟨w.heap.size,0,none⟩)) ?_ (zvm _) k;unfold execOp;simp [l,Instr.box,newVar,newRow]
theorem zyf : ∀ (l : List Value) (k off : Nat) (cs : Array Value),off + k + l.length ≤ cs.size →
  ((l.zipIdx k).foldl (fun cs (cj : Value × Nat) => cs.setIfInBounds (off + cj.2) cj.1) cs).size = cs.size ∧
  ∀ q,((l.zipIdx k).foldl (fun cs (cj : Value × Nat) => cs.setIfInBounds (off + cj.2) cj.1) cs)[q]? = if q < off + k then cs[q]? else if q < off + k + l.length then l[q - (off + k)]? else cs[q]?
 | [],k,off,cs,_ => ⟨by simp,fun q => by
   simp only [List.zipIdx_nil,List.foldl_nil,List.length_nil,Nat.add_zero]
   split <;> rfl⟩
 | v :: l,k,off,cs,h => by
   simp only [List.length_cons] at h;obtain ⟨a,b⟩:=zyf l (k + 1) off (cs.setIfInBounds (off + k) v) (by simp; omega);simp only [List.zipIdx_cons,List.foldl_cons];refine ⟨by rw [a]; simp,fun q => ?_⟩;rw [b]
   by_cases c1 : q < off + k
   ·rw [if_pos (by omega),if_pos c1,yd,if_neg (by omega)]
   ·rw [if_neg c1]
    by_cases c2 : q = off + k
    ·subst c2
     rw [if_pos (by omega),if_pos (by simp),yd];simp;omega
    ·rw [if_neg (by omega)]
     by_cases c3 : q < off + k + (l.length + 1)
     ·rw [if_pos (by omega),if_pos (by simpa using c3),show q - (off + k) = q - (off + (k + 1)) + 1 from by omega]
      simp
     ·rw [if_neg (by omega),if_neg (by simpa using c3),yd,if_neg (by omega)]
theorem zu9 (l cs : Array Value) (off : Nat) (h : off + l.size ≤ cs.size) :
  (l.zipIdx.foldl (fun cs (cj : Value × Nat) => cs.setIfInBounds (off + cj.2) cj.1) cs).size = cs.size ∧
  ∀ q,(l.zipIdx.foldl (fun cs (cj : Value × Nat) => cs.setIfInBounds (off + cj.2) cj.1) cs)[q]? = if q < off then cs[q]? else if q < off + l.size then l.toList[q - off]? else cs[q]?:=by
 have:=zyf l.toList 0 off cs (by simpa using h);rw [← Array.foldl_toList,Array.toList_zipIdx];simpa using this
theorem zyo {σ : zd} {cs d e : List C} {us us' : List Value} {es : List Value} {off : Nat} (h : zA g w σ cs us) (he : zA g w σ e es) (s : zGg cs off e = some d) (r : us'.length = us.length)
  (b : ∀ q,us'[q]? = if q < off then us[q]? else if q < off + es.length then es[q - off]? else us[q]?) : zA g w σ d us':=by
 obtain ⟨y,n,p⟩:=zqT s;have k:=zQ he;refine zlm (by rw [r,n]; exact zQ h) fun j c u a hu => ?_;rw [p] at a;rw [b] at hu
 have sub : ∀ {l : List C} {m : List Value} {j' : Nat},zA g w σ l m → l[j']? = some c → m[j']? = some u → zF g w σ c u:=fun i v f => by
  obtain ⟨x,t,o⟩:=zeo i v;rw [t] at f;injection f with f;rw [← f]; exact o
 by_cases c1 : j < off
 ·rw [if_pos c1] at a hu; exact sub h a hu
 ·rw [if_neg c1] at a hu
  by_cases c2 : j < off + e.length
  ·rw [if_pos c2] at a
   rw [if_pos (by omega)] at hu;exact sub he a hu
  ·rw [if_neg c2] at a
   rw [if_neg (by omega)] at hu;exact sub h a hu
def zml (κ : List Tmp) (loc : List (Option Tmp)) (place : Nat → Option (Nat × Nat)) : List (Nat × Operand) → List (Nat × Nat × X) → Bool
 | [],[] => true
 | (i,x) :: ps,(off,sz,y) :: qs => (place i == some (off,sz)) && decide (0 < sz) && okX κ loc x y && zml κ loc place ps qs
 | _,_ => false
theorem zsc {place : Nat → Option (Nat × Nat)} (F : Fr κ loc nt g w r a) : ∀ (f : List (Nat × Operand)) (j : List (Nat × Nat × X)) (cells : Array Value) (cs b : List C),zml κ loc place f j = true → zA g w r.st cs cells.toList → (∀ v ∈ cells.toList,v.oneCell' = true) →
  zoH r j cs = some b → ∃ cells',Instr.fill place cells (f.map fun p => (p.1,a.eval p.2)) = some cells' ∧ zA g w r.st b cells'.toList ∧ ∀ v ∈ cells'.toList,v.oneCell' = true
 | [],[],cells,cs,b,_,h,h1,c => by
   simp only [zoH,Option.some.injEq] at c;subst c;exact ⟨cells,rfl,h,h1⟩
 | (i,x) :: f,(off,sz,y) :: j,cells,cs,b,hp,h,h1,c => by
   simp only [zml,yq,beq_iff_eq,decide_eq_true_eq] at hp;obtain ⟨⟨⟨n,E⟩,H⟩,o⟩:=hp;simp only [zoH] at c;split at c
   ·rename_i A
    rw [yh] at c;obtain ⟨l,s,c⟩:=c;obtain ⟨t,G⟩:=zjc (F.get H) A.2 (by omega);have m:=zQ t;simp only [yf] at m;obtain ⟨J,I,_⟩:=zqT s;have k:=zQ h;simp only [yf] at k;obtain ⟨f1,f2⟩:=zu9 (a.eval x).cells cells off (by omega);have e:=zyo (us':=((a.eval x).cells.zipIdx.foldl (fun cs (cj : Value × Nat) => cs.setIfInBounds (off + cj.2) cj.1) cells).toList) h t s (by simpa using f1) (fun q => by simpa using f2 q)
    obtain ⟨cells',z,D,u⟩:=zsc F f j _ l b o e (fun v B => by
     obtain ⟨q,d⟩:=yl.1 B;rw [ye,f2] at d;split at d
     ·exact h1 v (yb (by rw [ye]; exact d))
     ·split at d
      ·exact G v (yb d)
      ·exact h1 v (yb (by rw [ye]; exact d))) c
    refine ⟨cells',?_,D,u⟩;simp only [yv,Instr.fill,n];rw [if_neg]
    ·exact z
    ·simp only [yt,decide_eq_true_eq,not_or]
     constructor
     ·simp; omega
     ·omega
   ·cases c
 | [],_ :: _,_,_,_,hp,_,_,_ => by simp [zml] at hp
 | _ :: _,[],_,_,_,hp,_,_,_ => by simp [zml] at hp
end
def zpG (P : Program) (t : TypeId) : Option (Nat → Option (Nat × Nat)) :=
 match P.underlying t with
 | some (.array _ e) => (P.info? e).map fun ie i => some (i * ie.size,ie.size)
 | some (.struct fields) => (fields.toList.mapM (fun f => (P.info? f.type).map fun i => (f.offset,i.size))).map fun places i => places.toArray[i]?
 | _ => none
section
variable {P : Program} {κ : List Tmp} {loc : List (Option Tmp)} {nt : Nat} {g : G} {w : World} {r r' : R} {a : Act} {o : Go.Oper} {d : D} {next : Act → World → Prop} {Q : Exit → Act → World → Prop}
theorem zzM (r : R) (os : List Ob) (x : X) : (r.allocs os).get x = r.get x:=by cases x <;> rfl
theorem zpc (r : R) (os : List Ob) : ∀ (a : List (Nat × Nat × X)) (cs : List C),zoH (r.allocs os) a cs = zoH r a cs
 | [],_ => rfl
 | (off,sz,x) :: a,cs => by
   simp only [zoH,zzM]
   congr 1
   exact congrArg _ (funext fun c => zpc r os a c)
theorem zEq {t : TypeId} {place : Nat → Option (Nat × Nat)} {f : List Value} {d : List (Nat × Value)} {cells : Array Value} (j : zeroOf P t = some f) (a : zpG P t = some place) (c : Instr.fill place f.toArray d = some cells) : P.built t d = some cells:=by
 obtain ⟨i,z,g,h,k⟩:=zc5 j;subst k;unfold zpG at a;unfold Program.built;split at a
 ·rename_i n e hu
  rw [ya] at a;obtain ⟨l,b,rfl⟩:=a;simp only [g,hu,h,b];simpa using c
 ·rename_i fs hu
  rw [ya] at a;obtain ⟨pl,b,rfl⟩:=a;simp only [g,hu,h,b];simpa using c
 ·cases a
theorem zBw (G : Rel g w r.st) (L : Low r.base r.lim r.st) (F : Fr κ loc nt g w r a) {t : TypeId} {parts : Array (Nat × Operand)} {b : List Value} {zero : List C} {fresh : List (Nat × Nat)} {place : Nat → Option (Nat × Nat)} {n : List (Nat × Nat × X)}
  (D : o.op = .build t parts) (hd : okD κ nt o.dst d = true) (q : zeroOf P t = some b) (y : zgm b zero = true) (s : zjM b fresh = true) (e : zpG P t = some place) (A : zml κ loc place parts.toList n = true)
  {r1 : R} (h : (zoH r n (zgP r.st.length fresh zero)).map (zG6 r d fresh) = some r1) (k : zrj κ (zbp o.dst d :: loc) nt g w r r1 (a.put o.dst) next) : o.wp P a w next Q:=by
 rw [ya] at h;obtain ⟨l,h,rfl⟩:=h;obtain ⟨f,m⟩:=za3 (g:=g) (w:=w) (σ:=r.st) y;obtain ⟨p,H1,H,j⟩:=zsV fresh G s f;have v : Fr κ loc nt p w (r.allocs (tokens fresh)) a:=F.ext H1 rfl rfl;obtain ⟨cells,E,z,_⟩:=zsc (place:=place) v parts.toList n b.toArray _ l A (show zA p w (r.st ++ tokens fresh) _ b from j) (by simpa using m) (by rw [zpc]; exact h);have B:=zEq q e E;refine zcy (r1:=r.allocs (tokens fresh)) F hd H1 H (L.append _) rfl rfl (u:=.agg cells) ?_ ?_ k
 ·unfold execOp
  have c : P.built t (parts.map fun (i,x) => (i,a.eval x)).toList = some cells:=by simpa using B
  simp only [D,Sem.run_bind,run_build w t _ cells c,Result.andThen_ok,Sem.run_pure]
 ·simp only [zh]
  exact ⟨cells,rfl,z⟩
theorem zmX {σ : zd} {zc : Array Value} {sz : Nat} {es : List (List C)} (o : zc.size = sz) (r : 0 < sz) (h : ∀ e ∈ es,zA g w σ e zc.toList) (q : ∀ u ∈ zc.toList,u.oneCell' = true) : zdS g w σ ((yu (es.length * sz)).map (zc[· % zc.size]!)) sz es:=fun i e n => by
 have b:=h e (yb n);have m:=zQ b;simp only [yf,o] at m;refine ⟨m.symm,fun j c k => ?_⟩;obtain ⟨u,d,p⟩:=zeo b k;have l : j < sz:=by have:=zb k; omega
 refine ⟨u,?_,p,q u (yb d)⟩;have f:=inside (zb n) l;rw [Array.getElem?_map,yi (by simpa using f)];simp only [Array.getElem_range,Option.map_some];have a : (i * sz + j) % zc.size = j:=by rw [o,Nat.mul_comm,Nat.mul_add_mod,Nat.mod_eq_of_lt l]
 rw [a];rw [ye] at d;rw [getElem!_pos zc j (by omega)];rw [yi (by omega)] at d;exact d
def zjG (κ : List Tmp) (loc : List (Option Tmp)) : List (Nat × Operand) → List (Nat × X) → Bool
 | [],[] => true
 | (i,x) :: ps,(j,y) :: qs => (i == j) && okX κ loc x y && zjG κ loc ps qs
 | _,_ => false
theorem zqr (F : Fr κ loc nt g w r a) {sz : Nat} (J : 0 < sz) : ∀ (f : List (Nat × Operand)) (k : List (Nat × X)) (cells : Array Value) (es es' : List (List C)),zjG κ loc f k = true → cells.size = es.length * sz → zdS g w r.st cells sz es →
  zpk r sz k es = some es' → ∃ cells',Instr.fill (fun i => some (i * sz,sz)) cells (f.map fun p => (p.1,a.eval p.2)) = some cells' ∧ cells'.size = es'.length * sz ∧ zdS g w r.st cells' sz es' ∧ es'.length = es.length
 | [],[],cells,es,es',_,hs,h,hf => by
   simp only [zpk,Option.some.injEq] at hf;subst hf;exact ⟨cells,rfl,hs,h,rfl⟩
 | (i,x) :: f,(j,y) :: k,cells,es,es',hp,hs,h,hf => by
   simp only [zjG,yq,beq_iff_eq] at hp;obtain ⟨⟨rfl,I⟩,o⟩:=hp;simp only [zpk] at hf;split at hf
   ·rename_i B
    obtain ⟨c1,c2,c3⟩:=B;obtain ⟨s,H⟩:=zjc (F.get I) c3 (by omega);have m:=zQ s;simp only [yf] at m;have t:=zC3 (q:=sz) c1 (yk sz);obtain ⟨f1,f2⟩:=zu9 (a.eval x).cells cells (i * sz) (by omega)
    obtain ⟨cells',A,D,v,z⟩:=zqr F J f k _ _ es' o (by rw [f1,hs]; simp) (fun n e b => by
     rw [List.getElem?_set] at b
     by_cases e1 : i = n
     ·subst e1
      simp [c1] at b;subst b;refine ⟨c2,fun j c d => ?_⟩;obtain ⟨u,m1,m2⟩:=zeo s d;have l:=zb d;refine ⟨u,?_,m2,H u (yb m1)⟩;rw [f2,if_neg (by omega),if_pos (by omega),Nat.add_sub_cancel_left];exact m1
     ·rw [if_neg e1] at b
      obtain ⟨E,m1⟩:=h n e b;refine ⟨E,fun j c d => ?_⟩;obtain ⟨u,m2,K,G⟩:=m1 j c d;have l:=zb d;refine ⟨u,?_,K,G⟩;rw [f2];split
      ·exact m2
      ·split
       ·exfalso
        have:=apart (q:=n * sz + j - i * sz) (sz:=sz) e1 (by omega : j < sz) (by omega);omega
       ·exact m2) hf
    refine ⟨cells',?_,D,v,by rw [z]; simp⟩;simp only [yv,Instr.fill];rw [if_neg]
    ·exact A
    ·simp only [yt,decide_eq_true_eq,not_or]
     constructor
     ·simp; omega
     ·omega
   ·cases hf
 | [],_ :: _,_,_,_,hp,_,_,_ => by simp [zjG] at hp
 | _ :: _,[],_,_,_,hp,_,_,_ => by simp [zjG] at hp
theorem zhy {σ : zd} {c : C} {x : Fz} {u : Value} (h : zyz c = some x) (a : zF g w σ c u) : rep w g.N x u:=by
 unfold zyz at h;split at h
 ·injection h with h; subst h; simpa only [zF] using a
 ·injection h with h; subst h; simp only [zF] at a; exact a.1
 ·cases h
theorem zgo {α : Type} {x : Option α} {xs : Option (List α)} {ys : List α} (h : zg6 x xs = some ys) : ∃ y z,x = some y ∧ xs = some z ∧ ys = y :: z:=by
 unfold zg6 at h;split at h
 ·injection h with h; exact ⟨_,_,rfl,rfl,h.symm⟩
 ·cases h
theorem zgp : ∀ {cs : List C} {xs : List Fz},zfR cs = some xs → xs.length = cs.length ∧ ∀ (j : Nat) (x : Fz),xs[j]? = some x → ∃ c,cs[j]? = some c ∧ zyz c = some x
 | [],xs,h => by
   simp only [zfR,Option.some.injEq] at h;subst h;exact ⟨rfl,fun j x a => by simp at a⟩
 | c :: cs,xs,h => by
   simp only [zfR] at h;obtain ⟨y,z,b,e,rfl⟩:=zgo h;obtain ⟨l,d⟩:=zgp e;refine ⟨by simp [l],fun j x a => ?_⟩
   cases j with
   | zero => simp at a; subst a; exact ⟨c,by simp,b⟩
   | succ j => simpa using d j x (by simpa using a)
theorem zfB : ∀ {es : List (List C)} {xs : List (List Fz)},za6 es = some xs → xs.length = es.length ∧ ∀ (i : Nat) (x : List Fz),xs[i]? = some x → ∃ e,es[i]? = some e ∧ zfR e = some x
 | [],xs,h => by
   simp only [za6,Option.some.injEq] at h;subst h;exact ⟨rfl,fun j x a => by simp at a⟩
 | c :: cs,xs,h => by
   simp only [za6] at h;obtain ⟨y,z,d,f,rfl⟩:=zgo h;obtain ⟨l,b⟩:=zfB f;refine ⟨by simp [l],fun j x a => ?_⟩
   cases j with
   | zero => simp at a; subst a; exact ⟨c,by simp,d⟩
   | succ j => simpa using b j x (by simpa using a)
theorem zpP {σ : zd} {arr : Array Value} {sz : Nat} {es : List (List C)} {xs : List (List Fz)} (q : arr.size = es.length * sz) (h : zdS g w σ arr sz es) (n : za6 es = some xs) : Lay w g.N sz xs arr.toList:=by
 obtain ⟨l,k⟩:=zfB n;refine ⟨by simp [q,l],zfs fun e he => ?_,fun i e d j x o => ?_⟩
 ·obtain ⟨i,d⟩:=yl.1 he
  obtain ⟨b,f,a⟩:=k i e d;rw [(zgp a).1];exact (h i b f).1
 ·obtain ⟨b,f,a⟩:=k i e d
  obtain ⟨c,m,p⟩:=(zgp a).2 j x o;obtain ⟨u,m1,m2,r⟩:=(h i b f).2 j c m;exact ⟨u,by simpa using m1,zhy p m2,r⟩
theorem znO {σ : zd} {sz : Nat} {xs : List (List Fz)} {us : List Value} (h : Lay w g.N sz xs us) : zdS g w σ us.toArray sz (xs.map fun e => e.map C.f):=fun i e a => by
 rw [yp,ya] at a;obtain ⟨x,d,rfl⟩:=a;refine ⟨by simpa using zcc h.2.1 d,fun j c b => ?_⟩;rw [yp,ya] at b;obtain ⟨y,l,rfl⟩:=b;obtain ⟨u,k,n,m⟩:=h.2.2 i x d j y l;exact ⟨u,by simpa using k,by simpa only [zF] using n,m⟩
def zCb (zs : List Value) (zero : List (List C)) : Bool:=zero.all fun e => zgm zs e
theorem zAW (U : Rel g w r.st) (L : Low r.base r.lim r.st) (F : Fr κ loc nt g w r a) {t e : TypeId} {len sz : Nat} {parts : Array (Nat × Operand)} {D : List Value} {zero : List (List C)} {S : List (Nat × X)} {b : B}
  (ho : o.op = .buildSlice t len parts) (hd : okD κ nt o.dst d = true) (V : P.underlying t = some (.slice e)) (Z : zjg P e = some sz) (h0 : 0 < sz) (hlen : zero.length = len) (W : len * sz ≤ 16777216) (hz : zeroOf P e = some D) (N : D.length = sz) (v : D.all Value.oneCell' = true) (hc : zCb D zero = true) (hp : zjG κ loc parts.toList S = true)
  {r1 : R} (h : (zpk r sz S zero).bind (zxC r d sz b) = some r1) (k : zrj κ (zbp o.dst d :: loc) nt g w r r1 (a.put o.dst) next) : o.wp P a w next Q:=by
 subst hlen;rw [yh] at h;obtain ⟨es',h,c⟩:=h;obtain ⟨i,z,E,h2,h3⟩:=zc5 hz;subst h3;have J : z.cells.size = sz:=by simpa using N
 have M : ∀ u ∈ z.cells.toList,u.oneCell' = true:=fun u hu => yr.1 v u hu;have p:=zmX (g:=g) (w:=w) (σ:=r.st) (zc:=z.cells) (es:=zero) J h0 (fun e he => (za3 (yr.1 hc e he)).1) M;obtain ⟨cells,k1,A,I,k4⟩:=zqr F h0 parts.toList S _ zero es' hp (by simp) p h;have Y : es'.length = zero.length:=k4
 have f : (execOp a.eval o).run P w = .ok (.value (.slice (some ⟨w.heap.size,0,none⟩) es'.length es'.length)) (w.alloc (.cells cells e)):=by
  unfold zjg at Z;have s : i.size = sz:=by simpa [E] using Z
  have n : ¬ (16777216 < zero.length * sz):=by omega
  have j : Instr.fill (fun i => some (i * sz,sz)) ((yu (zero.length * sz)).map (z.cells[· % z.cells.size]!)) (parts.map fun (i,x) => (i,a.eval x)).toList = some cells:=by simpa using k1
  unfold execOp;simp only [ho]
  by_cases m : zero.length = 0
  ·have O : (yu (zero.length * sz)).map (z.cells[· % z.cells.size]!) = (yu (zero.length * sz)).map ((#[] : Array Value)[· % (#[] : Array Value).size]!):=by simp [m,Array.range_zero']
   rw [O] at j;simp [Instr.buildSlice,run_underlying V,sizeOf,typeInfo,E,s,m,newRow,Y];simp [m] at j;simp [j]
  ·have K : ¬ (zero.length * sz = 0):=Nat.mul_ne_zero m (by omega)
   simp [Instr.buildSlice,run_underlying V,sizeOf,typeInfo,E,s,n,K,zco (w:=w) E h2,newRow,Y];simp at j;simp [j]
 have G : cells = cells.toList.toArray:=by simp
 rw [G] at f
 cases b with
 | fz =>
   simp only [zxC,ya] at c;obtain ⟨xs,c,rfl⟩:=c;have l:=zpP A I c;rw [← (zfB c).1] at f;obtain ⟨g',H,y,q⟩:=zEa U e l;exact zcy (r1:=r) F hd H y L rfl rfl f q k
 | tk =>
   simp only [zxC,ya] at c;obtain ⟨xs,c,rfl⟩:=c;have l:=zpP A I c;rw [← (zfB c).1] at f;obtain ⟨g',H,y,q⟩:=zAE U e l;exact zcy (r1:=r.alloc (.tok sz [xs.length])) F hd H y (L.append _) rfl rfl f q k
 | rw =>
   simp only [zxC,Option.some.injEq] at c;subst c;obtain ⟨H,y⟩:=ziZ (sz:=sz) (es:=es') U e (us:=cells.toList) (by simpa using A) (by simpa using I);have q:=zqp (g:=g) (w:=w) (σ:=r.st) (sz:=sz) (es:=es') (us:=cells.toList) e (by simpa using A);exact zcy (r1:=r.alloc (.cells 0 sz es')) F hd H y (L.append _) rfl rfl f q k
end
section
variable {P : Program} {κ : List Tmp} {loc : List (Option Tmp)} {nt : Nat} {g : G} {w : World} {r r' : R} {a : Act} {o : Go.Oper} {d : D} {next : Act → World → Prop} {Q : Exit → Act → World → Prop}
theorem zBh {σ : zd} {sz : Nat} {f : Nat → Value} (fr : List Nat) {k : Nat} (b : fr[k]? = some 0) (a : f k = .slice none 0 0) : zF (g.nils σ.length f) w (σ ++ [.tok sz fr]) (.ap σ.length k []) (.slice none 0 0):=by
 rw [zF];exact ⟨zty,0,zew (sz:=sz) (fr:=fr) (by simp) b,yk _,fun _ => by rw [G.nils_tv,a],sz,zde (fr:=fr) (by simp),by simp only [zcs]⟩
theorem zxh (f : Rel g w r.st) (L : Low r.base r.lim r.st) (F : Fr κ loc nt g w r a) {b : B} {sz : Nat} (j : o.op = .move (.const (.slice none 0 0)) ∨ o.op = .assign (.const (.slice none 0 0))) (hd : okD κ nt o.dst d = true)
  {r1 : R} (h : anl r d sz b = some r1) (k : zrj κ (zbp o.dst d :: loc) nt g w r r1 (a.put o.dst) next) : o.wp P a w next Q:=by
 have c:=zsI (P:=P) (w:=w) (a:=a) j
 cases b with
 | fz =>
   simp only [anl,Option.some.injEq] at h;subst h;exact znK f L F hd c (by simpa only [vsl,zh,zF,Act.eval] using zty) k
 | tk =>
   simp only [anl,Option.some.injEq] at h;subst h
   obtain ⟨H,e⟩:=zs1 f sz [0] (fun _ => .slice none 0 0) (fun k n i => ⟨by
    cases k with
    | zero => simp at i; exact i.symm
    | succ k => simp at i,none,rfl⟩)
   exact zcy (r1:=r.alloc (.tok sz [0])) F hd H e (L.append _) rfl rfl c (by simp only [zh]; exact zBh (sz:=sz) [0] (by simp) rfl) k
 | rw =>
   simp only [anl,Option.some.injEq] at h;subst h;obtain ⟨H,e⟩:=zsY f sz;refine zcy (r1:=r.alloc (.cells 0 sz [])) F hd H e (L.append _) rfl rfl c ?_ k;simp only [zh,zF,Act.eval];exact ⟨0,sz,0,zC (zlv _ _),yk _,fun _ => ⟨none,0,rfl,yk _,fun _ => rfl,fun h => absurd rfl h⟩,_,_,rfl⟩
theorem zuC {t e : TypeId} {i : TypeInfo} {z : Value} (f : P.underlying t = some (.slice e)) (c : P.info? e = some i) (d : i.zero = some z) {a : IntKind} {k : Int} (b : 0 ≤ k) (g : k ≤ LIM) (h : i.bytes ≤ 32768) :
  (Instr.makeSlice t (.int a k) (.int a k)).run P w = .ok (.slice (some ⟨w.heap.size,0,none⟩) k.toNat k.toNat) (w.alloc (.cells (madeCells z.cells (k.toNat * i.size)) e)):=by
 unfold LIM at g;refine run_make w t e i z f c d a a k k b (yw _) ?_ (by omega);have j : (i.bytes : Int) * k ≤ 32768 * k:=yg (by omega) b;omega
theorem zAU (M : Rel g w r.st) (L : Low r.base r.lim r.st) (F : Fr κ loc nt g w r a) {t e : TypeId} {x : Operand} {sz : Nat} {i : TypeInfo} {B : List Value} {zero : List C} {fresh : Option (Nat × Nat)}
  (ho : o.op = .makeSlice t x x) (hd : okD κ nt o.dst d = true) (ht : P.underlying t = some (.slice e)) (G : P.info? e = some i) (hb : i.bytes ≤ 32768) (hs : i.size = sz) (K : 0 < sz) (U : zeroOf P e = some B) (y : B.length = sz) (Y : zgm B zero = true)
  (X : ∀ j,fresh = some j → B[j.1]? = some (.slice none 0 0)) {N : V} (J : zh g w r.st N (a.eval x)) {r1 : R} (h : zG5 r d zero fresh N = some r1) (k : zrj κ (zbp o.dst d :: loc) nt g w r r1 (a.put o.dst) next) : o.wp P a w next Q:=by
 obtain ⟨i',z,D,S,W⟩:=zc5 U;rw [G] at D;injection D with D;subst D;subst W;have s : z.cells.size = sz:=by simpa using y
 obtain ⟨f,A⟩:=za3 (g:=g) (w:=w) (σ:=r.st) Y;have u : zero.length = sz:=by rw [← zQ f]; exact y
 have c : ∀ l m,a.eval x = .int l m → 0 ≤ m → m ≤ LIM → (execOp a.eval o).run P w = .ok (.value (.slice (some ⟨w.heap.size,0,none⟩) m.toNat m.toNat)) (w.alloc (.cells (madeCells z.cells (m.toNat * sz)).toList.toArray e)):=fun l m ex Z m1 => by
  unfold execOp;simp only [ho,ex,Sem.run_bind,zuC (P:=P) (w:=w) ht G S Z m1 hb,Result.andThen_ok,Sem.run_pure,hs]
 unfold zG5 at h;split at h
 ·rename_i l m
  obtain ⟨ex,_⟩:=z7 J;split at h
  ·rename_i hm
   injection h with h;subst h;rw [u] at k;have hlen : (yc m.toNat zero).length = m.toNat:=(by simp);have v : (madeCells z.cells (m.toNat * sz)).toList.length = (yc m.toNat zero).length * sz:=by simp [size_madeCells]
   have b : zdS g w r.st (madeCells z.cells (m.toNat * sz)).toList.toArray sz (yc m.toNat zero):=by
    have:=zmX (g:=g) (w:=w) (σ:=r.st) (es:=yc m.toNat zero) s K (fun e he => by rw [(yn.1 he).2]; exact f) A;rw [hlen] at this;rw [ym];exact this
   obtain ⟨H,E⟩:=ziZ M e v b;have p:=zqp (g:=g) (w:=w) (σ:=r.st) e v;rw [hlen] at p;exact zcy (r1:=r.alloc (.cells 0 sz (yc m.toNat zero))) F hd H E (L.append _) rfl rfl (c l m ex hm.1 hm.2) p k
  ·cases h
 ·rename_i j l m
  obtain ⟨ex,_⟩:=z7 J;split at h
  ·rename_i hm
   injection h with h;subst h;rw [u] at k;obtain ⟨H1,E⟩:=zs1 M j.2 (yc m.toNat 0) (fun _ => .slice none 0 0) (fun q n hn => ⟨(yn.1 (yb hn)).2,none,rfl⟩);have hlen : ((yo m.toNat).map (nest r.st.length zero j.1)).length = m.toNat:=(by simp);have v : (madeCells z.cells (m.toNat * sz)).toList.length = ((yo m.toNat).map (nest r.st.length zero j.1)).length * sz:=by simp [size_madeCells]
   have b : zdS (g.nils r.st.length fun _ => .slice none 0 0) w (r.st ++ [.tok j.2 (yc m.toNat 0)]) (madeCells z.cells (m.toNat * sz)).toList.toArray sz ((yo m.toNat).map (nest r.st.length zero j.1)):=by
    have:=zmX (g:=g.nils r.st.length fun _ => .slice none 0 0) (w:=w) (σ:=r.st ++ [.tok j.2 (yc m.toNat 0)]) (es:=(yo m.toNat).map (nest r.st.length zero j.1)) s K (fun e he => by
     obtain ⟨q,I,rfl⟩:=List.mem_map.1 he;rw [List.mem_range] at I
     exact zqA (H1.zA _ _ f) (X j rfl) (zBh _ (by simp [List.getElem?_replicate,I]) rfl)) A
    rw [hlen] at this;rw [ym];exact this
   obtain ⟨H,O⟩:=ziZ E e v b;have p:=zqp (g:=g.nils r.st.length fun _ => .slice none 0 0) (w:=w) (σ:=r.st ++ [.tok j.2 (yc m.toNat 0)]) e v;rw [hlen] at p;refine zcy (r1:=r.allocs [.tok j.2 (yc m.toNat 0),.cells 0 sz ((yo m.toNat).map (nest r.st.length zero j.1))]) F hd (H1.trans (by simpa [R.allocs] using H)) (by simpa [R.allocs] using O) (L.append _) rfl rfl (c l m ex hm.1 hm.2) (by simpa [R.allocs] using p) k
  ·cases h
 ·cases h
theorem zAh (e : Rel g w r.st) (L : Low r.base r.lim r.st) (F : Fr κ loc nt g w r a) {t : TypeId} (f : o.op = .makeMap t none) (hd : okD κ nt o.dst d = true)
  (k : zrj κ (zbp o.dst d :: loc) nt g w r ((r.alloc (.mp [])).put d (.one (.map r.st.length))) (a.put o.dst) next) : o.wp P a w next Q:=by
 obtain ⟨H,h⟩:=zvC e (.mp []) (.map #[] 0) fun H b i c => ⟨by rw [b]; exact i,by rw [b]; exact c,#[],0,by rw [b]; exact zaP w _,⟨[],.nil,by simp,rfl⟩,by simp,by simp⟩;refine zcy (r1:=r.alloc (.mp [])) F hd H h (L.append _) rfl rfl (u:=.map (some w.heap.size)) ?_ ?_ k
 ·unfold execOp
  simp [f,Instr.makeMap]
 ·simp only [zh,zF]
  exact ⟨⟨[],zlv _ _⟩,by simp [G.own]⟩
theorem zy1 {σ : zd} (l : Rel g w σ) {sz c : Nat} {cur : Array Value} (t : TypeId) (v : cur.size = c * sz) :
  ∃ g',Ext g w σ g' (w.alloc (.cells cur t)) (σ ++ [.tok sz [0]]) ∧ Rel g' (w.alloc (.cells cur t)) (σ ++ [.tok sz [0]]) ∧
    zh g' (w.alloc (.cells cur t)) (σ ++ [.tok sz [0]]) (.one (.ap σ.length 0 [])) (.slice (some ⟨w.heap.size,0,none⟩) 0 c):=by
 let g' : G:={ g with tv:=fun a k => if a = σ.length then .slice (some ⟨w.heap.size,0,none⟩) 0 c else g.tv a k,ow:=zvM g.ow w.heap.size (.tk σ.length 0) }
 have e : ∀ b,b < w.heap.size → g'.ow b = g.ow b:=fun b q => zas g.ow (k:=w.heap.size) (i:=b) _ (by omega)
 have j : ∀ a k,a < σ.length → g'.tv a k = g.tv a k:=fun a k h => by
  show (if a = σ.length then _ else g.tv a k) = _
  rw [if_neg (by omega)]
 have d : ∀ k,g'.tv σ.length k = .slice (some ⟨w.heap.size,0,none⟩) 0 c:=fun k => by
  show (if σ.length = σ.length then _ else _) = _
  rw [if_pos rfl]
 have H : Ext g w σ g' (w.alloc (.cells cur t)) (σ ++ [.tok sz [0]]) :=
  Ext.alloc l _ g' (fun _ _ => rfl) (fun a k n h => j a k (by obtain ⟨_,_,x,_⟩:=zdR h; exact zb x)) e (fun _ _ _ => Iff.rfl) _
 have p:=zaP w (.cells cur t);refine ⟨g',H,⟨fun b o h => ?_,fun id o h => ?_⟩,?_⟩
 ·rw [size_alloc]
  have:=l.nb b o h;omega
 ·by_cases f : id < σ.length
  ·rw [List.getElem?_append_left f] at h
   exact zcl H rfl (fun k => j id k f) (fun b q _ => ⟨heap_alloc_old w _ q,e b q,fun _ h => h⟩) (l.ob id o h)
  ·have m : id = σ.length:=by
    have:=zb h;simp at this;omega
   subst m;simp at h;subst h;intro k n s
   cases k with
   | succ k => simp at s
   | zero =>
     simp at s;subst s;rw [d];rcases Nat.eq_zero_or_pos c with u | u
     ·exact .inl ⟨rfl,_,by rw [u]⟩
     ·exact .inr ⟨_,_,_,cur,t,rfl,u,yx _,zeV _ _ _,p,by simp [v],fun y r => absurd (l.nb _ _ r) (Nat.lt_irrefl _)⟩
 ·simp only [zh,zF,rep]
  exact ⟨⟨_,c,sz,rfl,yx _,by simp only [zcs],.inl trivial⟩,0,zew (sz:=sz) (fr:=[0]) (by simp) (by simp),yk _,fun _ => (d 0).symm,sz,zde (fr:=[0]) (by simp),by simp only [zcs]⟩
theorem zAy (B : Rel g w r.st) (L : Low r.base r.lim r.st) (F : Fr κ loc nt g w r a) {t e : TypeId} {x : Operand} {f : IntKind} {sz : Nat} {i : TypeInfo} {z : Value}
  (s : o.op = .makeSlice t (.const (.int f 0)) x) (hd : okD κ nt o.dst d = true) (p : P.underlying t = some (.slice e)) (u : P.info? e = some i) (D : i.bytes ≤ 32768) (y : i.size = sz) (l : i.zero = some z)
  {j : V} (A : zh g w r.st j (a.eval x)) {r1 : R} (h : zHe r d sz j = some r1) (k : zrj κ (zbp o.dst d :: loc) nt g w r r1 (a.put o.dst) next) : o.wp P a w next Q:=by
 unfold zHe at h;split at h
 ·rename_i v m
  obtain ⟨ex,_⟩:=z7 A;split at h
  ·rename_i hm
   injection h with h;subst h;have q : m ≤ LIM:=hm.2;unfold LIM at q
   have b:=run_make (P:=P) w t e i z p u l f v 0 m (yw _) hm.1 (by
    have E : (i.bytes : Int) * m ≤ 32768 * m:=yg (by omega) hm.1
    omega) (by omega)
   simp only [Int.toNat_zero] at b;obtain ⟨g',H,C,n⟩:=zy1 (c:=m.toNat) (sz:=sz) (cur:=madeCells z.cells (m.toNat * i.size)) B e (by rw [size_madeCells,y]);refine zcy (r1:=r.alloc (.tok sz [0])) F hd H C (L.append _) rfl rfl ?_ n k;unfold execOp;have e0 : a.eval (.const (.int f 0)) = .int f 0:=rfl;simp only [s,ex,e0,Sem.run_bind,b,Result.andThen_ok,Sem.run_pure]
  ·cases h
 ·cases h
end
end Go.A

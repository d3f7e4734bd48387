/- A part of the proof of SchedTells. Conditions: none. -/
import Derived.Test.YtmkncmffaaninaaGreatTAD
set_option linter.all false
open List renaming replicate → ya,mem_of_getElem? → yc,range → yh,append_assoc → yl,mem_iff_getElem? → yn,replicate_succ' → yo,mem_replicate → yp,getElem?_map → yq,all_eq_true → yt,mem_range → yw,map_cons → yx,mem_map → yz
open Option renaming map_eq_some_iff → yb,bind_eq_some_iff → yi
open Array renaming getElem?_setIfInBounds → yd,getElem?_toList → ye,length_toList → yf,toArray_toList → yj,getElem?_eq_getElem → yk,range → yv
open Int renaming mul_le_mul_of_nonneg_right → yg,le_refl → yy
open Nat renaming le_refl → ym,zero_le → yA
open Bool renaming and_eq_true → yr,or_eq_true → yu
namespace Go.A
section
variable {P : Program} {κ : List Tmp} {loc : List (Option Tmp)} {nt : Nat} {g : G} {w : World} {r r' : R} {a : Act} {o : Go.Oper} {d : D} {next : Act → World → Prop} {Q : Exit → Act → World → Prop}
theorem zdN {t : TypeId} {b : List Value} (h : zeroOf P t = some b) : ∃ i z,P.info? t = some i ∧ i.zero = some z ∧ z.cells.toList = b:=by
 unfold zeroOf at h;rw [yb] at h;obtain ⟨z,a,c⟩:=h;rw [yi] at a;obtain ⟨i,a,d⟩:=a;exact ⟨i,z,a,d,c⟩
theorem zdF {t : TypeId} {i : TypeInfo} {z : Value} (b : P.info? t = some i) (a : i.zero = some z) : (zeroValue t).run P w = .ok z w:=by simp [zeroValue,typeInfo,b,a]
theorem zDn (y : Rel g w r.st) (L : Low r.base r.lim r.st) (F : Fr κ loc nt g w r a) {t : TypeId} {b : List Value} {zero : List C} {fresh : List (Nat × Nat)} (m : o.op = .alloc t) (hd : okD κ nt o.dst d = true) (v : zeroOf P t = some b) (n : zf2 b zero = true) (A : zhY b fresh = true)
  (k : zpJ κ (zbg o.dst d :: loc) nt g w r (aal r d zero fresh) (a.put o.dst) next) : o.wp P a w next Q:=by
 obtain ⟨i,z,p,B,s⟩:=zdN v;obtain ⟨j,h⟩:=zaE (g:=g) (w:=w) (σ:=r.st) n;obtain ⟨x,H1,E,f⟩:=zsL fresh y A j;have c:=zJ f;rw [zju] at c
 obtain ⟨q,D⟩:=zhz (sz:=zero.length) (es:=[zgZ r.st.length fresh zero]) (us:=b) E t (by simp [c]) (by
  have:=znZ f h
  rwa [zju] at this)
 have l : (r.st ++ tokens fresh).length = r.st.length + fresh.length:=by simp [zj1]
 have e : aal r d zero fresh = (r.allocs (tokens fresh ++ [.cells 0 zero.length [zgZ r.st.length fresh zero]])).put d (.one (.ptr (r.st.length + fresh.length) 0 0 0)):=rfl;rw [e] at k;refine zbP (r1:=r.allocs (tokens fresh ++ [.cells 0 zero.length [zgZ r.st.length fresh zero]])) F hd (H1.trans (by simpa [R.allocs,yl] using q)) (by simpa [R.allocs,yl] using D) (L.append _) rfl rfl (u:=.pointer (some ⟨w.heap.size,0,none⟩)) ?_ ?_ k
 ·unfold execOp
  simp only [m];have : z.cells = b.toArray:=by rw [← s]
  simp [Instr.alloc,zdF (w:=w) p B,newVar,newRow,this]
 ·have:=zuA (g:=x) (w:=w) (σ:=r.st ++ tokens fresh) (sz:=zero.length) (es:=[zgZ r.st.length fresh zero]) (.cells b.toArray t)
  rw [l] at this;simpa [R.allocs,yl,zj1] using this
theorem zAA (p : Rel g w r.st) (L : Low r.base r.lim r.st) (F : Fr κ loc nt g w r a) {t : TypeId} {x : Operand} {sz : Nat} (h : o.op = .box t x) (hd : okD κ nt o.dst d = true) (n : 0 < sz)
  {b : V} (i : zf g w r.st b (a.eval x)) (j : b.cells.length = sz) (e : C.kns b.cells = true)
  (k : zpJ κ (zbg o.dst d :: loc) nt g w r ((r.alloc (.cells 0 sz [b.cells])).put d (.one (.ptr r.st.length 0 0 0))) (a.put o.dst) next) : o.wp P a w next Q:=by
 subst j;obtain ⟨c,l⟩:=zk9 i e n;obtain ⟨m,f⟩:=zhz (sz:=b.cells.length) (es:=[b.cells]) p t (by simp [zJ c]) (znZ c l);refine zbP (r1:=r.alloc (.cells 0 b.cells.length [b.cells])) F hd m f (L.append _) rfl rfl (u:=.pointer (some ⟨w.heap.size,0,none⟩)) ?_ (zuA _) k;unfold execOp;simp [h,Instr.box,newVar,newRow]
theorem zxE : ∀ (l : List Value) (k off : Nat) (cs : Array Value),off + k + l.length ≤ cs.size →
  ((l.zipIdx k).foldl (fun cs (cj : Value × Nat) => cs.setIfInBounds (off + cj.2) cj.1) cs).size = cs.size ∧
  ∀ q,((l.zipIdx k).foldl (fun cs (cj : Value × Nat) => cs.setIfInBounds (off + cj.2) cj.1) cs)[q]? = if q < off + k then cs[q]? else if q < off + k + l.length then l[q - (off + k)]? else cs[q]?
 | [],k,off,cs,_ => ⟨by simp,fun q => by
   simp only [List.zipIdx_nil,List.foldl_nil,List.length_nil,Nat.add_zero]
   split <;> rfl⟩
 | v :: l,k,off,cs,h => by
   simp only [List.length_cons] at h;obtain ⟨b,a⟩:=zxE l (k + 1) off (cs.setIfInBounds (off + k) v) (by simp; omega);simp only [List.zipIdx_cons,List.foldl_cons];refine ⟨by rw [b]; simp,fun q => ?_⟩;rw [a]
   by_cases c1 : q < off + k
   ·rw [if_pos (by omega),if_pos c1,yd,if_neg (by omega)]
   ·rw [if_neg c1]
    by_cases c2 : q = off + k
    ·subst c2
     rw [if_pos (by omega),if_pos (by simp),yd];simp;omega
    ·rw [if_neg (by omega)]
     by_cases c3 : q < off + k + (l.length + 1)
     ·rw [if_pos (by omega),if_pos (by simpa using c3),show q - (off + k) = q - (off + (k + 1)) + 1 from by omega]
      simp
     ·rw [if_neg (by omega),if_neg (by simpa using c3),yd,if_neg (by omega)]
theorem zvl (l cs : Array Value) (off : Nat) (h : off + l.size ≤ cs.size) :
  (l.zipIdx.foldl (fun cs (cj : Value × Nat) => cs.setIfInBounds (off + cj.2) cj.1) cs).size = cs.size ∧
  ∀ q,(l.zipIdx.foldl (fun cs (cj : Value × Nat) => cs.setIfInBounds (off + cj.2) cj.1) cs)[q]? = if q < off then cs[q]? else if q < off + l.size then l.toList[q - off]? else cs[q]?:=by
 have:=zxE l.toList 0 off cs (by simpa using h);rw [← Array.foldl_toList,Array.toList_zipIdx];simpa using this
theorem zyE {σ : zd} {cs b e : List C} {us us' : List Value} {es : List Value} {off : Nat} (h : zw g w σ cs us) (he : zw g w σ e es) (i : zEC cs off e = some b) (k : us'.length = us.length)
  (d : ∀ q,us'[q]? = if q < off then us[q]? else if q < off + es.length then es[q - off]? else us[q]?) : zw g w σ b us':=by
 obtain ⟨y,r,t⟩:=zqn i;have s:=zJ he;refine zlg (by rw [k,r]; exact zJ h) fun j c u a hu => ?_;rw [t] at a;rw [d] at hu
 have sub : ∀ {l : List C} {m : List Value} {j' : Nat},zw g w σ l m → l[j']? = some c → m[j']? = some u → zz g w σ c u:=fun v o f => by
  obtain ⟨x,p,n⟩:=zeM v o;rw [p] at f;injection f with f;rw [← f]; exact n
 by_cases c1 : j < off
 ·rw [if_pos c1] at a hu; exact sub h a hu
 ·rw [if_neg c1] at a hu
  by_cases c2 : j < off + e.length
  ·rw [if_pos c2] at a
   rw [if_pos (by omega)] at hu;exact sub he a hu
  ·rw [if_neg c2] at a
   rw [if_neg (by omega)] at hu;exact sub h a hu
def zmC (κ : List Tmp) (loc : List (Option Tmp)) (place : Nat → Option (Nat × Nat)) : List (Nat × Operand) → List (Nat × Nat × X) → Bool
 | [],[] => true
 | (i,x) :: ps,(off,sz,y) :: qs => (place i == some (off,sz)) && decide (0 < sz) && okX κ loc x y && zmC κ loc place ps qs
 | _,_ => false
theorem zsi {place : Nat → Option (Nat × Nat)} (F : Fr κ loc nt g w r a) : ∀ (f : List (Nat × Operand)) (j : List (Nat × Nat × X)) (cells : Array Value) (cs b : List C),zmC κ loc place f j = true → zw g w r.st cs cells.toList → (∀ v ∈ cells.toList,v.oneCell' = true) →
  zol r j cs = some b → ∃ cells',Instr.fill place cells (f.map fun p => (p.1,a.eval p.2)) = some cells' ∧ zw g w r.st b cells'.toList ∧ ∀ v ∈ cells'.toList,v.oneCell' = true
 | [],[],cells,cs,b,_,h,h1,c => by
   simp only [zol,Option.some.injEq] at c;subst c;exact ⟨cells,rfl,h,h1⟩
 | (i,x) :: f,(off,sz,y) :: j,cells,cs,b,hp,h,h1,c => by
   simp only [zmC,yr,beq_iff_eq,decide_eq_true_eq] at hp;obtain ⟨⟨⟨l,u⟩,H⟩,m⟩:=hp;simp only [zol] at c;split at c
   ·rename_i B
    rw [yi] at c;obtain ⟨n,s,c⟩:=c;obtain ⟨t,A⟩:=zk9 (F.get H) B.2 (by omega);have k:=zJ t;simp only [yf] at k;obtain ⟨J,I,_⟩:=zqn s;have o:=zJ h;simp only [yf] at o;obtain ⟨f1,f2⟩:=zvl (a.eval x).cells cells off (by omega);have e:=zyE (us':=((a.eval x).cells.zipIdx.foldl (fun cs (cj : Value × Nat) => cs.setIfInBounds (off + cj.2) cj.1) cells).toList) h t s (by simpa using f1) (fun q => by simpa using f2 q)
    obtain ⟨cells',D,z,G⟩:=zsi F f j _ n b m e (fun v E => by
     obtain ⟨q,d⟩:=yn.1 E;rw [ye,f2] at d;split at d
     ·exact h1 v (yc (by rw [ye]; exact d))
     ·split at d
      ·exact A v (yc d)
      ·exact h1 v (yc (by rw [ye]; exact d))) c
    refine ⟨cells',?_,z,G⟩;simp only [yx,Instr.fill,l];rw [if_neg]
    ·exact D
    ·simp only [yu,decide_eq_true_eq,not_or]
     constructor
     ·simp; omega
     ·omega
   ·cases c
 | [],_ :: _,_,_,_,hp,_,_,_ => by simp [zmC] at hp
 | _ :: _,[],_,_,_,hp,_,_,_ => by simp [zmC] at hp
end
def zpv (P : Program) (t : TypeId) : Option (Nat → Option (Nat × Nat)) :=
 match P.underlying t with
 | some (.array _ e) => (P.info? e).map fun ie i => some (i * ie.size,ie.size)
 | some (.struct fields) => (fields.toList.mapM (fun f => (P.info? f.type).map fun i => (f.offset,i.size))).map fun places i => places.toArray[i]?
 | _ => none
section
variable {P : Program} {κ : List Tmp} {loc : List (Option Tmp)} {nt : Nat} {g : G} {w : World} {r r' : R} {a : Act} {o : Go.Oper} {d : D} {next : Act → World → Prop} {Q : Exit → Act → World → Prop}
theorem zyF (r : R) (os : List Ob) (x : X) : (r.allocs os).get x = r.get x:=by cases x <;> rfl
theorem zoR (r : R) (os : List Ob) : ∀ (a : List (Nat × Nat × X)) (cs : List C),zol (r.allocs os) a cs = zol r a cs
 | [],_ => rfl
 | (off,sz,x) :: a,cs => by
   simp only [zol,zyF]
   congr 1
   exact congrArg _ (funext fun c => zoR r os a c)
theorem zDk {t : TypeId} {place : Nat → Option (Nat × Nat)} {d : List Value} {h : List (Nat × Value)} {cells : Array Value} (k : zeroOf P t = some d) (a : zpv P t = some place) (f : Instr.fill place d.toArray h = some cells) : P.built t h = some cells:=by
 obtain ⟨i,z,c,g,j⟩:=zdN k;subst j;unfold zpv at a;unfold Program.built;split at a
 ·rename_i n e hu
  rw [yb] at a;obtain ⟨l,b,rfl⟩:=a;simp only [c,hu,g,b];simpa using f
 ·rename_i fs hu
  rw [yb] at a;obtain ⟨pl,b,rfl⟩:=a;simp only [c,hu,g,b];simpa using f
 ·cases a
theorem zBJ (D : Rel g w r.st) (L : Low r.base r.lim r.st) (F : Fr κ loc nt g w r a) {t : TypeId} {parts : Array (Nat × Operand)} {b : List Value} {zero : List C} {fresh : List (Nat × Nat)} {place : Nat → Option (Nat × Nat)} {n : List (Nat × Nat × X)}
  (q : o.op = .build t parts) (hd : okD κ nt o.dst d = true) (z : zeroOf P t = some b) (s : zf2 b zero = true) (E : zhY b fresh = true) (e : zpv P t = some place) (A : zmC κ loc place parts.toList n = true)
  {r1 : R} (h : (zol r n (zgZ r.st.length fresh zero)).map (zFY r d fresh) = some r1) (k : zpJ κ (zbg o.dst d :: loc) nt g w r r1 (a.put o.dst) next) : o.wp P a w next Q:=by
 rw [yb] at h;obtain ⟨c,h,rfl⟩:=h;obtain ⟨m,f⟩:=zaE (g:=g) (w:=w) (σ:=r.st) s;obtain ⟨p,H1,H,j⟩:=zsL fresh D E m;have G : Fr κ loc nt p w (r.allocs (tokens fresh)) a:=F.ext H1 rfl rfl;obtain ⟨cells,y,v,_⟩:=zsi (place:=place) G parts.toList n b.toArray _ c A (show zw p w (r.st ++ tokens fresh) _ b from j) (by simpa using f) (by rw [zoR]; exact h);have B:=zDk z e y;refine zbP (r1:=r.allocs (tokens fresh)) F hd H1 H (L.append _) rfl rfl (u:=.agg cells) ?_ ?_ k
 ·unfold execOp
  have l : P.built t (parts.map fun (i,x) => (i,a.eval x)).toList = some cells:=by simpa using B
  simp only [q,Sem.run_bind,run_build w t _ cells l,Result.andThen_ok,Sem.run_pure]
 ·simp only [zf]
  exact ⟨cells,rfl,v⟩
theorem zkz {σ : zd} {zc : Array Value} {sz : Nat} {es : List (List C)} (o : zc.size = sz) (r : 0 < sz) (h : ∀ e ∈ es,zw g w σ e zc.toList) (q : ∀ u ∈ zc.toList,u.oneCell' = true) : zci g w σ ((yv (es.length * sz)).map (zc[· % zc.size]!)) sz es:=fun i e n => by
 have b:=h e (yc n);have k:=zJ b;simp only [yf,o] at k;refine ⟨k.symm,fun j c l => ?_⟩;obtain ⟨u,d,p⟩:=zeM b l;have m : j < sz:=by have:=zb l; omega
 refine ⟨u,?_,p,q u (yc d)⟩;have f:=inside (zb n) m;rw [Array.getElem?_map,yk (by simpa using f)];simp only [Array.getElem_range,Option.map_some];have a : (i * sz + j) % zc.size = j:=by rw [o,Nat.mul_comm,Nat.mul_add_mod,Nat.mod_eq_of_lt m]
 rw [a];rw [ye] at d;rw [getElem!_pos zc j (by omega)];rw [yk (by omega)] at d;exact d
def zjy (κ : List Tmp) (loc : List (Option Tmp)) : List (Nat × Operand) → List (Nat × X) → Bool
 | [],[] => true
 | (i,x) :: ps,(j,y) :: qs => (i == j) && okX κ loc x y && zjy κ loc ps qs
 | _,_ => false
theorem zp8 (F : Fr κ loc nt g w r a) {sz : Nat} (J : 0 < sz) : ∀ (f : List (Nat × Operand)) (k : List (Nat × X)) (cells : Array Value) (es es' : List (List C)),zjy κ loc f k = true → cells.size = es.length * sz → zci g w r.st cells sz es →
  zpd r sz k es = some es' → ∃ cells',Instr.fill (fun i => some (i * sz,sz)) cells (f.map fun p => (p.1,a.eval p.2)) = some cells' ∧ cells'.size = es'.length * sz ∧ zci g w r.st cells' sz es' ∧ es'.length = es.length
 | [],[],cells,es,es',_,hs,h,hf => by
   simp only [zpd,Option.some.injEq] at hf;subst hf;exact ⟨cells,rfl,hs,h,rfl⟩
 | (i,x) :: f,(j,y) :: k,cells,es,es',hp,hs,h,hf => by
   simp only [zjy,yr,beq_iff_eq] at hp;obtain ⟨⟨rfl,H⟩,m⟩:=hp;simp only [zpd] at hf;split at hf
   ·rename_i B
    obtain ⟨c1,c2,c3⟩:=B;obtain ⟨t,A⟩:=zk9 (F.get H) c3 (by omega);have l:=zJ t;simp only [yf] at l;have s:=zAq (q:=sz) c1 (ym sz);obtain ⟨f1,f2⟩:=zvl (a.eval x).cells cells (i * sz) (by omega)
    obtain ⟨cells',E,z,G,D⟩:=zp8 F J f k _ _ es' m (by rw [f1,hs]; simp) (fun n e b => by
     rw [List.getElem?_set] at b
     by_cases e1 : i = n
     ·subst e1
      simp [c1] at b;subst b;refine ⟨c2,fun j c d => ?_⟩;obtain ⟨u,m1,m2⟩:=zeM t d;have o:=zb d;refine ⟨u,?_,m2,A u (yc m1)⟩;rw [f2,if_neg (by omega),if_pos (by omega),Nat.add_sub_cancel_left];exact m1
     ·rw [if_neg e1] at b
      obtain ⟨v,m1⟩:=h n e b;refine ⟨v,fun j c d => ?_⟩;obtain ⟨u,m2,I,K⟩:=m1 j c d;have o:=zb d;refine ⟨u,?_,I,K⟩;rw [f2];split
      ·exact m2
      ·split
       ·exfalso
        have:=apart (q:=n * sz + j - i * sz) (sz:=sz) e1 (by omega : j < sz) (by omega);omega
       ·exact m2) hf
    refine ⟨cells',?_,z,G,by rw [D]; simp⟩;simp only [yx,Instr.fill];rw [if_neg]
    ·exact E
    ·simp only [yu,decide_eq_true_eq,not_or]
     constructor
     ·simp; omega
     ·omega
   ·cases hf
 | [],_ :: _,_,_,_,hp,_,_,_ => by simp [zjy] at hp
 | _ :: _,[],_,_,_,hp,_,_,_ => by simp [zjy] at hp
theorem zhE {σ : zd} {c : C} {x : Fz} {u : Value} (h : zun c = some x) (a : zz g w σ c u) : rep w g.N x u:=by
 unfold zun at h;split at h
 ·injection h with h; subst h; simpa only [zz] using a
 ·injection h with h; subst h; simp only [zz] at a; exact a.1
 ·cases h
theorem zgv {α : Type} {x : Option α} {xs : Option (List α)} {ys : List α} (h : zgl x xs = some ys) : ∃ y z,x = some y ∧ xs = some z ∧ ys = y :: z:=by
 unfold zgl at h;split at h
 ·injection h with h; exact ⟨_,_,rfl,rfl,h.symm⟩
 ·cases h
theorem zgA : ∀ {cs : List C} {xs : List Fz},zeq cs = some xs → xs.length = cs.length ∧ ∀ (j : Nat) (x : Fz),xs[j]? = some x → ∃ c,cs[j]? = some c ∧ zun c = some x
 | [],xs,h => by
   simp only [zeq,Option.some.injEq] at h;subst h;exact ⟨rfl,fun j x a => by simp at a⟩
 | c :: cs,xs,h => by
   simp only [zeq] at h;obtain ⟨y,z,e,b,rfl⟩:=zgv h;obtain ⟨l,d⟩:=zgA b;refine ⟨by simp [l],fun j x a => ?_⟩
   cases j with
   | zero => simp at a; subst a; exact ⟨c,by simp,e⟩
   | succ j => simpa using d j x (by simpa using a)
theorem zfY : ∀ {es : List (List C)} {xs : List (List Fz)},zaj es = some xs → xs.length = es.length ∧ ∀ (i : Nat) (x : List Fz),xs[i]? = some x → ∃ e,es[i]? = some e ∧ zeq e = some x
 | [],xs,h => by
   simp only [zaj,Option.some.injEq] at h;subst h;exact ⟨rfl,fun j x a => by simp at a⟩
 | c :: cs,xs,h => by
   simp only [zaj] at h;obtain ⟨y,z,f,b,rfl⟩:=zgv h;obtain ⟨l,d⟩:=zfY b;refine ⟨by simp [l],fun j x a => ?_⟩
   cases j with
   | zero => simp at a; subst a; exact ⟨c,by simp,f⟩
   | succ j => simpa using d j x (by simpa using a)
theorem zrb {σ : zd} {arr : Array Value} {sz : Nat} {es : List (List C)} {xs : List (List Fz)} (r : arr.size = es.length * sz) (h : zci g w σ arr sz es) (o : zaj es = some xs) : Lay w g.N sz xs arr.toList:=by
 obtain ⟨l,k⟩:=zfY o;refine ⟨by simp [r,l],zfK fun e he => ?_,fun i e f j x m => ?_⟩
 ·obtain ⟨i,f⟩:=yn.1 he
  obtain ⟨d,a,b⟩:=k i e f;rw [(zgA b).1];exact (h i d a).1
 ·obtain ⟨d,a,b⟩:=k i e f
  obtain ⟨c,n,q⟩:=(zgA b).2 j x m;obtain ⟨u,m1,m2,p⟩:=(h i d a).2 j c n;exact ⟨u,by simpa using m1,zhE q m2,p⟩
theorem zjZ {σ : zd} {sz : Nat} {xs : List (List Fz)} {us : List Value} (h : Lay w g.N sz xs us) : zci g w σ us.toArray sz (xs.map fun e => e.map C.f):=fun i e d => by
 rw [yq,yb] at d;obtain ⟨x,a,rfl⟩:=d;refine ⟨by simpa using zcb h.2.1 a,fun j c b => ?_⟩;rw [yq,yb] at b;obtain ⟨y,n,rfl⟩:=b;obtain ⟨u,k,m,l⟩:=h.2.2 i x a j y n;exact ⟨u,by simpa using k,by simpa only [zz] using m,l⟩
def zzR (zs : List Value) (zero : List (List C)) : Bool:=zero.all fun e => zf2 zs e
theorem zB0 (M : Rel g w r.st) (L : Low r.base r.lim r.st) (F : Fr κ loc nt g w r a) {t e : TypeId} {len sz : Nat} {parts : Array (Nat × Operand)} {E : List Value} {zero : List (List C)} {U : List (Nat × X)} {b : B}
  (ho : o.op = .buildSlice t len parts) (hd : okD κ nt o.dst d = true) (V : P.underlying t = some (.slice e)) (Z : zjM P e = some sz) (h0 : 0 < sz) (hlen : zero.length = len) (W : len * sz ≤ 16777216) (hz : zeroOf P e = some E) (G : E.length = sz) (s : E.all Value.oneCell' = true) (hc : zzR E zero = true) (hp : zjy κ loc parts.toList U = true)
  {r1 : R} (h : (zpd r sz U zero).bind (zxc r d sz b) = some r1) (k : zpJ κ (zbg o.dst d :: loc) nt g w r r1 (a.put o.dst) next) : o.wp P a w next Q:=by
 subst hlen;rw [yi] at h;obtain ⟨es',h,c⟩:=h;obtain ⟨i,z,A,h2,h3⟩:=zdN hz;subst h3;have K : z.cells.size = sz:=by simpa using G
 have O : ∀ u ∈ z.cells.toList,u.oneCell' = true:=fun u hu => yt.1 s u hu;have n:=zkz (g:=g) (w:=w) (σ:=r.st) (zc:=z.cells) (es:=zero) K h0 (fun e he => (zaE (yt.1 hc e he)).1) O;obtain ⟨cells,k1,D,I,k4⟩:=zp8 F h0 parts.toList U _ zero es' hp (by simp) n h;have Y : es'.length = zero.length:=k4
 have f : (execOp a.eval o).run P w = .ok (.value (.slice (some ⟨w.heap.size,0,none⟩) es'.length es'.length)) (w.alloc (.cells cells e)):=by
  unfold zjM at Z;have q : i.size = sz:=by simpa [A] using Z
  have p : ¬ (16777216 < zero.length * sz):=by omega
  have j : Instr.fill (fun i => some (i * sz,sz)) ((yv (zero.length * sz)).map (z.cells[· % z.cells.size]!)) (parts.map fun (i,x) => (i,a.eval x)).toList = some cells:=by simpa using k1
  unfold execOp;simp only [ho]
  by_cases m : zero.length = 0
  ·have J : (yv (zero.length * sz)).map (z.cells[· % z.cells.size]!) = (yv (zero.length * sz)).map ((#[] : Array Value)[· % (#[] : Array Value).size]!):=by simp [m,Array.range_zero']
   rw [J] at j;simp [Instr.buildSlice,run_underlying V,sizeOf,typeInfo,A,q,m,newRow,Y];simp [m] at j;simp [j]
  ·have N : ¬ (zero.length * sz = 0):=Nat.mul_ne_zero m (by omega)
   simp [Instr.buildSlice,run_underlying V,sizeOf,typeInfo,A,q,p,N,zdF (w:=w) A h2,newRow,Y];simp at j;simp [j]
 have S : cells = cells.toList.toArray:=by simp
 rw [S] at f
 cases b with
 | fz =>
   simp only [zxc,yb] at c;obtain ⟨xs,c,rfl⟩:=c;have l:=zrb D I c;rw [← (zfY c).1] at f;obtain ⟨g',H,y,v⟩:=zCs M e l;exact zbP (r1:=r) F hd H y L rfl rfl f v k
 | tk =>
   simp only [zxc,yb] at c;obtain ⟨xs,c,rfl⟩:=c;have l:=zrb D I c;rw [← (zfY c).1] at f;obtain ⟨g',H,y,v⟩:=zBo M e l;exact zbP (r1:=r.alloc (.tok sz [xs.length])) F hd H y (L.append _) rfl rfl f v k
 | rw =>
   simp only [zxc,Option.some.injEq] at c;subst c;obtain ⟨H,y⟩:=zhz (sz:=sz) (es:=es') M e (us:=cells.toList) (by simpa using D) (by simpa using I);have v:=zmY (g:=g) (w:=w) (σ:=r.st) (sz:=sz) (es:=es') (us:=cells.toList) e (by simpa using D);exact zbP (r1:=r.alloc (.cells 0 sz es')) F hd H y (L.append _) rfl rfl f v k
end
section
variable {P : Program} {κ : List Tmp} {loc : List (Option Tmp)} {nt : Nat} {g : G} {w : World} {r r' : R} {a : Act} {o : Go.Oper} {d : D} {next : Act → World → Prop} {Q : Exit → Act → World → Prop}
theorem zxq {σ : zd} {sz : Nat} {f : Nat → Value} (fr : List Nat) {k : Nat} (b : fr[k]? = some 0) (a : f k = .slice none 0 0) : zz (g.nils σ.length f) w (σ ++ [.tok sz fr]) (.ap σ.length k []) (.slice none 0 0):=by
 rw [zz];exact ⟨zsF,0,zd3 (sz:=sz) (fr:=fr) (by simp) b,ym _,fun _ => by rw [G.nils_tv,a],sz,zct (fr:=fr) (by simp),by simp only [zb9]⟩
theorem zwM (i : Rel g w r.st) (L : Low r.base r.lim r.st) (F : Fr κ loc nt g w r a) {b : B} {sz : Nat} (j : o.op = .move (.const (.slice none 0 0)) ∨ o.op = .assign (.const (.slice none 0 0))) (hd : okD κ nt o.dst d = true)
  {r1 : R} (h : anl r d sz b = some r1) (k : zpJ κ (zbg o.dst d :: loc) nt g w r r1 (a.put o.dst) next) : o.wp P a w next Q:=by
 have c:=zsX (P:=P) (w:=w) (a:=a) j
 cases b with
 | fz =>
   simp only [anl,Option.some.injEq] at h;subst h;exact zmW i L F hd c (by simpa only [vsl,zf,zz,Act.eval] using zsF) k
 | tk =>
   simp only [anl,Option.some.injEq] at h;subst h
   obtain ⟨H,f⟩:=zqG i sz [0] (fun _ => .slice none 0 0) (fun k n e => ⟨by
    cases k with
    | zero => simp at e; exact e.symm
    | succ k => simp at e,none,rfl⟩)
   exact zbP (r1:=r.alloc (.tok sz [0])) F hd H f (L.append _) rfl rfl c (by simp only [zf]; exact zxq (sz:=sz) [0] (by simp) rfl) k
 | rw =>
   simp only [anl,Option.some.injEq] at h;subst h;obtain ⟨H,f⟩:=zpE i sz;refine zbP (r1:=r.alloc (.cells 0 sz [])) F hd H f (L.append _) rfl rfl c ?_ k;simp only [zf,zz,Act.eval];exact ⟨0,sz,0,zu (zlG _ _),ym _,fun _ => ⟨none,0,rfl,ym _,fun _ => rfl,fun h => absurd rfl h⟩,_,_,rfl⟩
theorem zp7 {t e : TypeId} {i : TypeInfo} {z : Value} (f : P.underlying t = some (.slice e)) (g : P.info? e = some i) (d : i.zero = some z) {a : IntKind} {k : Int} (b : 0 ≤ k) (c : k ≤ LIM) (j : i.bytes ≤ 32768) :
  (Instr.makeSlice t (.int a k) (.int a k)).run P w = .ok (.slice (some ⟨w.heap.size,0,none⟩) k.toNat k.toNat) (w.alloc (.cells (madeCells z.cells (k.toNat * i.size)) e)):=by
 unfold LIM at c;refine run_make w t e i z f g d a a k k b (yy _) ?_ (by omega);have h : (i.bytes : Int) * k ≤ 32768 * k:=yg (by omega) b;omega
theorem zzJ (I : Rel g w r.st) (L : Low r.base r.lim r.st) (F : Fr κ loc nt g w r a) {t e : TypeId} {x : Operand} {sz : Nat} {i : TypeInfo} {D : List Value} {zero : List C} {fresh : Option (Nat × Nat)}
  (S : o.op = .makeSlice t x x) (hd : okD κ nt o.dst d = true) (W : P.underlying t = some (.slice e)) (K : P.info? e = some i) (Z : i.bytes ≤ 32768) (hs : i.size = sz) (N : 0 < sz) (Y : zeroOf P e = some D) (s : D.length = sz) (U : zf2 D zero = true)
  (hf : ∀ j,fresh = some j → D[j.1]? = some (.slice none 0 0)) {M : V} (J : zf g w r.st M (a.eval x)) {r1 : R} (h : zF2 r d zero fresh M = some r1) (k : zpJ κ (zbg o.dst d :: loc) nt g w r r1 (a.put o.dst) next) : o.wp P a w next Q:=by
 obtain ⟨i',z,B,h2,X⟩:=zdN Y;rw [K] at B;injection B with B;subst B;subst X;have A : z.cells.size = sz:=by simpa using s
 obtain ⟨f,u⟩:=zaE (g:=g) (w:=w) (σ:=r.st) U;have v : zero.length = sz:=by rw [← zJ f]; exact s
 have c : ∀ l m,a.eval x = .int l m → 0 ≤ m → m ≤ LIM → (execOp a.eval o).run P w = .ok (.value (.slice (some ⟨w.heap.size,0,none⟩) m.toNat m.toNat)) (w.alloc (.cells (madeCells z.cells (m.toNat * sz)).toList.toArray e)):=fun l m ex O m1 => by
  unfold execOp;simp only [S,ex,Sem.run_bind,zp7 (P:=P) (w:=w) W K h2 O m1 Z,Result.andThen_ok,Sem.run_pure,hs]
 unfold zF2 at h;split at h
 ·rename_i l m
  obtain ⟨ex,_⟩:=zQ J;split at h
  ·rename_i hm
   injection h with h;subst h;rw [v] at k;have hlen : (ya m.toNat zero).length = m.toNat:=(by simp);have p : (madeCells z.cells (m.toNat * sz)).toList.length = (ya m.toNat zero).length * sz:=by simp [size_madeCells]
   have b : zci g w r.st (madeCells z.cells (m.toNat * sz)).toList.toArray sz (ya m.toNat zero):=by
    have:=zkz (g:=g) (w:=w) (σ:=r.st) (es:=ya m.toNat zero) A N (fun e he => by rw [(yp.1 he).2]; exact f) u;rw [hlen] at this;rw [yj];exact this
   obtain ⟨H,E⟩:=zhz I e p b;have y:=zmY (g:=g) (w:=w) (σ:=r.st) e p;rw [hlen] at y;exact zbP (r1:=r.alloc (.cells 0 sz (ya m.toNat zero))) F hd H E (L.append _) rfl rfl (c l m ex hm.1 hm.2) y k
  ·cases h
 ·rename_i j l m
  obtain ⟨ex,_⟩:=zQ J;split at h
  ·rename_i hm
   injection h with h;subst h;rw [v] at k;obtain ⟨H1,E⟩:=zqG I j.2 (ya m.toNat 0) (fun _ => .slice none 0 0) (fun q n hn => ⟨(yp.1 (yc hn)).2,none,rfl⟩);have hlen : ((yh m.toNat).map (nest r.st.length zero j.1)).length = m.toNat:=(by simp);have p : (madeCells z.cells (m.toNat * sz)).toList.length = ((yh m.toNat).map (nest r.st.length zero j.1)).length * sz:=by simp [size_madeCells]
   have b : zci (g.nils r.st.length fun _ => .slice none 0 0) w (r.st ++ [.tok j.2 (ya m.toNat 0)]) (madeCells z.cells (m.toNat * sz)).toList.toArray sz ((yh m.toNat).map (nest r.st.length zero j.1)):=by
    have:=zkz (g:=g.nils r.st.length fun _ => .slice none 0 0) (w:=w) (σ:=r.st ++ [.tok j.2 (ya m.toNat 0)]) (es:=(yh m.toNat).map (nest r.st.length zero j.1)) A N (fun e he => by
     obtain ⟨q,G,rfl⟩:=yz.1 he;rw [yw] at G
     exact zmT (H1.zw _ _ f) (hf j rfl) (zxq _ (by simp [List.getElem?_replicate,G]) rfl)) u
    rw [hlen] at this;rw [yj];exact this
   obtain ⟨H,R2⟩:=zhz E e p b;have y:=zmY (g:=g.nils r.st.length fun _ => .slice none 0 0) (w:=w) (σ:=r.st ++ [.tok j.2 (ya m.toNat 0)]) e p;rw [hlen] at y;refine zbP (r1:=r.allocs [.tok j.2 (ya m.toNat 0),.cells 0 sz ((yh m.toNat).map (nest r.st.length zero j.1))]) F hd (H1.trans (by simpa [R.allocs] using H)) (by simpa [R.allocs] using R2) (L.append _) rfl rfl (c l m ex hm.1 hm.2) (by simpa [R.allocs] using y) k
  ·cases h
 ·cases h
theorem zvz {σ : zd} (R : Rel g w σ) (sz : Nat) : ∀ n : Nat,∃ g',Ext g w σ g' w (σ ++ ya n (.cells 0 sz [])) ∧ Rel g' w (σ ++ ya n (.cells 0 sz []))
 | 0 => ⟨g,by simpa using Ext.refl g w σ,by simpa using R⟩
 | n + 1 => by
   obtain ⟨d,H1,c⟩:=zvz R sz n;obtain ⟨b,a⟩:=zpE c sz;refine ⟨_,H1.trans (by simpa [yo] using b),by simpa [yo] using a⟩
theorem zzq (Y : Rel g w r.st) (L : Low r.base r.lim r.st) (F : Fr κ loc nt g w r a) {t e : TypeId} {x : Operand} {sz b : Nat} {i : TypeInfo} {s : List Value} {zero : List C} {j : Nat}
  (N : o.op = .makeSlice t x x) (hd : okD κ nt o.dst d = true) (S : P.underlying t = some (.slice e)) (J : P.info? e = some i) (X : i.bytes ≤ 32768) (hs : i.size = sz) (h0 : 0 < sz) (W : zeroOf P e = some s) (c : s.length = sz) (O : zf2 s zero = true)
  (Z : s[j]? = some (.slice none 0 0)) {K : V} (hx : zf g w r.st K (a.eval x)) {r1 : R} (h : zGt r d zero j b K = some r1) (k : zpJ κ (zbg o.dst d :: loc) nt g w r r1 (a.put o.dst) next) : o.wp P a w next Q:=by
 obtain ⟨i',z,p,h2,U⟩:=zdN W;rw [J] at p;injection p with p;subst p;subst U;have D : z.cells.size = sz:=by simpa using c
 obtain ⟨l,y⟩:=zaE (g:=g) (w:=w) (σ:=r.st) O;have A : zero.length = sz:=by rw [← zJ l]; exact c
 have f : ∀ v m,a.eval x = .int v m → 0 ≤ m → m ≤ LIM → (execOp a.eval o).run P w = .ok (.value (.slice (some ⟨w.heap.size,0,none⟩) m.toNat m.toNat)) (w.alloc (.cells (madeCells z.cells (m.toNat * sz)).toList.toArray e)):=fun v m ex M m1 => by
  unfold execOp;simp only [N,ex,Sem.run_bind,zp7 (P:=P) (w:=w) S J h2 M m1 X,Result.andThen_ok,Sem.run_pure,hs]
 unfold zGt at h;split at h
 ·rename_i v m
  obtain ⟨ex,_⟩:=zQ hx;split at h
  ·rename_i hm
   injection h with h;subst h;rw [A] at k;obtain ⟨u,H1,R1⟩:=zvz Y b m.toNat;have hlen : ((yh m.toNat).map (zrv r.st.length zero j)).length = m.toNat:=(by simp);have G : (madeCells z.cells (m.toNat * sz)).toList.length = ((yh m.toNat).map (zrv r.st.length zero j)).length * sz:=by simp [size_madeCells]
   have n : zci u w (r.st ++ ya m.toNat (.cells 0 b [])) (madeCells z.cells (m.toNat * sz)).toList.toArray sz ((yh m.toNat).map (zrv r.st.length zero j)):=by
    have:=zkz (g:=u) (w:=w) (σ:=r.st ++ ya m.toNat (.cells 0 b [])) (es:=(yh m.toNat).map (zrv r.st.length zero j)) D h0 (fun e he => by
     obtain ⟨q,I,rfl⟩:=yz.1 he;rw [yw] at I
     exact zmT (H1.zw _ _ l) Z (zzO I u)) y
    rw [hlen] at this;rw [yj];exact this
   obtain ⟨H,R2⟩:=zhz R1 e G n;have B:=zmY (g:=u) (w:=w) (σ:=r.st ++ ya m.toNat (.cells 0 b [])) e G;rw [hlen] at B;have E : (r.st ++ ya m.toNat (Ob.cells 0 b [])).length = r.st.length + m.toNat:=(by simp);rw [E] at B;refine zbP (r1:=r.allocs (ya m.toNat (.cells 0 b []) ++ [.cells 0 sz ((yh m.toNat).map (zrv r.st.length zero j))])) F hd (H1.trans (by simpa [R.allocs] using H)) (by simpa [R.allocs] using R2) (L.append _) rfl rfl (f v m ex hm.1 hm.2) (by simpa [R.allocs] using B) k
  ·cases h
 ·cases h
theorem zAv (i : Rel g w r.st) (L : Low r.base r.lim r.st) (F : Fr κ loc nt g w r a) {t : TypeId} (e : o.op = .makeMap t none) (hd : okD κ nt o.dst d = true)
  (k : zpJ κ (zbg o.dst d :: loc) nt g w r ((r.alloc (.mp [])).put d (.one (.map r.st.length))) (a.put o.dst) next) : o.wp P a w next Q:=by
 obtain ⟨H,h⟩:=zvb i (.mp []) (.map #[] 0) fun H b c f => ⟨by rw [b]; exact c,by rw [b]; exact f,#[],0,by rw [b]; exact zbu w _,⟨[],.nil,by simp,rfl⟩,by simp,by simp⟩;refine zbP (r1:=r.alloc (.mp [])) F hd H h (L.append _) rfl rfl (u:=.map (some w.heap.size)) ?_ ?_ k
 ·unfold execOp
  simp [e,Instr.makeMap]
 ·simp only [zf,zz]
  exact ⟨⟨[],zlG _ _⟩,by simp [G.own]⟩
theorem zx6 {σ : zd} (l : Rel g w σ) {sz c : Nat} {cur : Array Value} (t : TypeId) (x : cur.size = c * sz) :
  ∃ g',Ext g w σ g' (w.alloc (.cells cur t)) (σ ++ [.tok sz [0]]) ∧ Rel g' (w.alloc (.cells cur t)) (σ ++ [.tok sz [0]]) ∧
    zf g' (w.alloc (.cells cur t)) (σ ++ [.tok sz [0]]) (.one (.ap σ.length 0 [])) (.slice (some ⟨w.heap.size,0,none⟩) 0 c):=by
 let g' : G:={ g with tv:=fun a k => if a = σ.length then .slice (some ⟨w.heap.size,0,none⟩) 0 c else g.tv a k,ow:=zzd g.ow w.heap.size (.tk σ.length 0) }
 have f : ∀ b,b < w.heap.size → g'.ow b = g.ow b:=fun b q => zaQ g.ow (k:=w.heap.size) (i:=b) _ (by omega)
 have e : ∀ a k,a < σ.length → g'.tv a k = g.tv a k:=fun a k h => by
  show (if a = σ.length then _ else g.tv a k) = _
  rw [if_neg (by omega)]
 have d : ∀ k,g'.tv σ.length k = .slice (some ⟨w.heap.size,0,none⟩) 0 c:=fun k => by
  show (if σ.length = σ.length then _ else _) = _
  rw [if_pos rfl]
 have H : Ext g w σ g' (w.alloc (.cells cur t)) (σ ++ [.tok sz [0]]) :=
  Ext.alloc l _ g' (fun _ _ => rfl) (fun a k n h => e a k (by obtain ⟨_,_,v,_⟩:=zdi h; exact zb v)) f (fun _ _ _ => Iff.rfl) _
 have s:=zbu w (.cells cur t);refine ⟨g',H,⟨fun b o h => ?_,fun id o h => ?_⟩,?_⟩
 ·rw [size_alloc]
  have:=l.nb b o h;omega
 ·by_cases j : id < σ.length
  ·rw [List.getElem?_append_left j] at h
   exact zdq H rfl (fun k => e id k j) (fun b q _ => ⟨heap_alloc_old w _ q,f b q,fun _ h => h⟩) (l.ob id o h)
  ·have m : id = σ.length:=by
    have:=zb h;simp at this;omega
   subst m;simp at h;subst h;intro k n r
   cases k with
   | succ k => simp at r
   | zero =>
     simp at r;subst r;rw [d];rcases Nat.eq_zero_or_pos c with u | u
     ·exact .inl ⟨rfl,_,by rw [u]⟩
     ·exact .inr ⟨_,_,_,cur,t,rfl,u,yA _,zhJ _ _ _,s,by simp [x],fun y p => absurd (l.nb _ _ p) (Nat.lt_irrefl _)⟩
 ·simp only [zf,zz,rep]
  exact ⟨⟨_,c,sz,rfl,yA _,by simp only [zb9],.inl trivial⟩,0,zd3 (sz:=sz) (fr:=[0]) (by simp) (by simp),ym _,fun _ => (d 0).symm,sz,zct (fr:=[0]) (by simp),by simp only [zb9]⟩
theorem zBC (u : Rel g w r.st) (L : Low r.base r.lim r.st) (F : Fr κ loc nt g w r a) {t e : TypeId} {x : Operand} {f : IntKind} {sz : Nat} {i : TypeInfo} {z : Value}
  (l : o.op = .makeSlice t (.const (.int f 0)) x) (hd : okD κ nt o.dst d = true) (p : P.underlying t = some (.slice e)) (y : P.info? e = some i) (E : i.bytes ≤ 32768) (A : i.size = sz) (q : i.zero = some z)
  {j : V} (v : zf g w r.st j (a.eval x)) {r1 : R} (h : zGy r d sz j = some r1) (k : zpJ κ (zbg o.dst d :: loc) nt g w r r1 (a.put o.dst) next) : o.wp P a w next Q:=by
 unfold zGy at h;split at h
 ·rename_i C m
  obtain ⟨ex,_⟩:=zQ v;split at h
  ·rename_i hm
   injection h with h;subst h;have n : m ≤ LIM:=hm.2;unfold LIM at n
   have b:=run_make (P:=P) w t e i z p y q f C 0 m (yy _) hm.1 (by
    have D : (i.bytes : Int) * m ≤ 32768 * m:=yg (by omega) hm.1
    omega) (by omega)
   simp only [Int.toNat_zero] at b;obtain ⟨g',H,B,s⟩:=zx6 (c:=m.toNat) (sz:=sz) (cur:=madeCells z.cells (m.toNat * i.size)) u e (by rw [size_madeCells,A]);refine zbP (r1:=r.alloc (.tok sz [0])) F hd H B (L.append _) rfl rfl ?_ s k;unfold execOp;have e0 : a.eval (.const (.int f 0)) = .int f 0:=rfl;simp only [l,ex,e0,Sem.run_bind,b,Result.andThen_ok,Sem.run_pure]
  ·cases h
 ·cases h
end
end Go.A

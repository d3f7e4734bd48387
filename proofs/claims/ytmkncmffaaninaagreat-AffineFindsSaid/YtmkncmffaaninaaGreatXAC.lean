/- A part of the proof of AffineFinds. Conditions: none. -/
import Derived.Test.YtmkncmffaaninaaGreatXAB
import Derived.Orders
import Derived.Laws.Entries
import Derived.Laws.Small
import Derived.ChangeKeysEq
set_option linter.all false
open Nat renaming mul_le_mul_right → ya,le_refl → yd,add_sub_cancel_left → yg,le_of_not_lt → yp,add_assoc → yq,add_mul → yr,min_eq_left → yt,zero_add → yu,sub_mul → yx,lt_irrefl → yy
open List renaming length_append → yb,getElem?_append_left → yf,take_succ_cons → yh,length_take → yi,getElem?_set → yk,getElem?_set_ne → yl,getElem?_append → ym,mem_of_getElem? → yn,getD_eq_getElem?_getD → yo,all_cons → yz
open Array renaming getElem?_eq_some_iff → yc,getElem?_setIfInBounds → ye,getElem?_toList → yw
open Bool renaming and_eq_true → yj
open Option renaming bind_eq_some_iff → yv
namespace Go.A
section
variable {g : G} {w : World} {σ : zd}
theorem zl2 {w : World} {b i : Nat} {arr a : Array Value} {t : TypeId} (h : w.heap[b]? = some (.cells arr t (0,0))) : (w.setRow b a).cell? ⟨b,i,none⟩ = a[i]?:=cell_setRow_same w b i arr a t (0,0) h
theorem ziJ {w : World} {b i : Nat} {arr : Array Value} {t : TypeId} {fr : Nat × Nat} (h : w.heap[b]? = some (.cells arr t fr)) : w.cell? ⟨b,i,none⟩ = arr[i]?:=by simp [World.cell?,h]
theorem zsn {g' : G} {w' : World} {t k n sz : Nat} {fr : List Nat} (R : Rel g w σ) (s : σ[t]? = some (.tok sz fr)) (i : ∀ k',k' ≠ k → g'.tv t k' = g.tv t k') (d : ∀ b k',b < w.heap.size → g.ow b = .tk t k' → k' ≠ k → zvo g w g' w' b)
  (u : ∀ n',(fr.set k n)[k]? = some n' → (n' = 0 ∧ ∃ a,g'.tv t k = .slice a 0 0) ∨
   ∃ b o c arr ty,g'.tv t k = .slice (some ⟨b,o,none⟩) n' c ∧ 0 < c ∧ n' ≤ c ∧ g'.ow b = .tk t k ∧ w'.heap[b]? = some (.cells arr ty (0,0)) ∧ o + c * sz ≤ arr.size ∧ ∀ o',g'.N b o' → o' < o + n' * sz) : zDd g' w' (σ.set t (.tok sz (fr.set k n))) t (.tok sz (fr.set k n)):=by
 intro k' n' h
 by_cases e : k' = k
 ·subst e; exact u n' h
 ·rw [yl (Ne.symm e)] at h
  rw [i k' e];rcases R.ob t _ s k' n' h with h | ⟨b,o,c,arr,ty,y,z,m,l,j,r,p⟩
  ·exact .inl h
  ·obtain ⟨x,v,q⟩:=d b k' (yc.1 j).1 l e
   exact .inr ⟨b,o,c,arr,ty,y,z,m,v.trans l,x.trans j,r,fun o' f => p o' (q o' f)⟩
theorem zjP {t k n a sz : Nat} {fr : List Nat} (b : σ[t]? = some (.tok sz fr)) (c : fr[k]? = some n) : zow (σ.set t (.tok sz (fr.set k a))) t k = some a:=by
 refine zew (zE b) ?_;rw [yk];simp [zb c]
theorem zEm (R : Rel g w σ) {t k sz b o c : Nat} {fr : List Nat} {xs ys : List (List Fz)} {vs : List Value} (m : σ[t]? = some (.tok sz fr)) (I : fr[k]? = some xs.length) (hu : g.tv t k = .slice (some ⟨b,o,none⟩) xs.length c)
  (aC : 0 < xs.length + ys.length) (hx : rep w g.N (.sl xs) (.slice (some ⟨b,o,none⟩) xs.length c)) (M : zcs sz xs) (C : Lay w g.N sz ys vs) (f : xs.length + ys.length ≤ c) :
  ∃ arr ty g',w.heap[b]? = some (.cells arr ty (0,0)) ∧ o + xs.length * sz + vs.length ≤ arr.size ∧
    Ext g w σ g' (w.setRow b (zcq arr (o + xs.length * sz) vs)) (σ.set t (.tok sz (fr.set k (xs.length + ys.length)))) ∧
    Rel g' (w.setRow b (zcq arr (o + xs.length * sz) vs)) (σ.set t (.tok sz (fr.set k (xs.length + ys.length)))) ∧
    zF g' (w.setRow b (zcq arr (o + xs.length * sz) vs)) (σ.set t (.tok sz (fr.set k (xs.length + ys.length)))) (.ap t k (xs ++ ys)) (.slice (some ⟨b,o,none⟩) (xs.length + ys.length) c):=by
 have K:=R.ob t _ m k _ I;rcases K with ⟨h0,a0,v⟩ | ⟨b',o',c',arr,ty,A,_,h3,P,z,h6,W⟩
 ·rw [hu] at v
  injection v with _ _ v;omega
 rw [hu] at A;injection A with A _ h1c;injection A with A;injection A with h1a h1b;subst h1a h1b h1c;have hm : (xs.length + ys.length) * sz ≤ c * sz:=ya _ f;rw [yr] at hm;have l : o + xs.length * sz + vs.length ≤ arr.size:=by rw [C.1]; omega
 have L : b < w.heap.size:=(yc.1 z).1
 let g' : G:={ g.setTv t k (.slice (some ⟨b,o,none⟩) (xs.length + ys.length) c) with N:=fun b1 a => g.N b1 a ∨ (b1 = b ∧ o + xs.length * sz ≤ a ∧ a < o + (xs.length + ys.length) * sz) }
 have s : ∀ a,g.N b a → (w.setRow b (zcq arr (o + xs.length * sz) vs)).cell? ⟨b,a,none⟩ = w.cell? ⟨b,a,none⟩:=fun a h => by
  rw [zl2 z,ziJ z,zfO l,if_pos (W a h)]
 have U:=replace (g':=g') (w':=w.setRow b (zcq arr (o + xs.length * sz) vs)) (new:=.tok sz (fr.set k (xs.length + ys.length))) R m (fun b1 => b1 = b) rfl rfl rfl (by simp)
  (fun b1 n E => ⟨setRow_other w _ _ _ E,rfl,fun a h => h.elim id fun h => absurd h.1 E⟩)
  (fun b1 n => ⟨.inr ⟨k,by rw [n]; exact P⟩,rfl,fun a h => ⟨.inl h,by subst n; exact s a h⟩⟩)
  (fun b1 a _ h => .inl h) (fun _ _ => rfl) (fun j y O => G.setTv_ne g _ (by simp [O])) (fun b1 a h => by
   rw [setRow_size];rcases h with h | h
   ·exact R.nb b1 a h
   ·rw [h.1]; exact L)
  (fun X aB Y hs => by simp [shapeOf,m,Ob.shape] at hs) (fun es h => by cases h)
  (fun y V h => by
   by_cases e : y = k
   ·subst e
    rw [zew m I] at h;injection h with h;subst h;refine ⟨_,zjP m I,by omega,fun e => ?_⟩;have : ys.length = 0:=by omega
    show (g.setTv t y _).tv t y = _
    rw [G.setTv_same,hu,this];rfl
   ·obtain ⟨D,aA,q,S⟩:=zdR h
    rw [m] at q;injection q with q;injection q with q k1';subst q k1'
    exact ⟨V,zew (zE m) (by rw [yl (Ne.symm e)]; exact S),yd _,fun _ => G.setTv_ne g _ (by simp [e])⟩)
  (fun _ _ h => by injection h with h _; exact ⟨_,by rw [h]⟩)
  (fun H => zsn R m (fun y e => G.setTv_ne g _ (by simp [e]))
   (fun b1 y n d B => ⟨setRow_other w _ _ _ (fun e => by subst e; rw [P] at d; injection d with _ d; exact B d.symm),rfl,fun a h => h.elim id fun h => by
    exfalso;rw [h.1,P] at d;injection d with _ d
    exact B d.symm⟩)
   (fun V r => by
    rw [yk] at r;simp [zb I] at r;subst r
    exact .inr ⟨b,o,c,_,ty,G.setTv_same _ _ _ _,by omega,f,P,setRow_heap w _ _ _ _ _ z,by rw [zfH l]; exact h6,fun a h => by
     rcases h with h | h
     ·have:=W a h
      rw [yr];omega
     ·exact h.2.2⟩))
 obtain ⟨Q,U⟩:=U;refine ⟨arr,ty,g',z,l,Q,U,?_⟩;simp only [zF]
 have Z : zcs sz (xs ++ ys):=zfs fun e he => by
  rcases List.mem_append.1 he with he | he
  ·exact zfZ M e he
  ·exact zfZ C.2.1 e he
 refine ⟨?_,xs.length + ys.length,zjP m I,by simp,fun _ => (G.setTv_same _ _ _ _).symm,sz,zde (zE m),Z⟩;have:=zxU (w:=w.setRow b (zcq arr (o + xs.length * sz) vs)) (N:=g'.N) (b:=b) (o:=o) (c:=c) Z (by simpa using f) (zgw fun i e p => ?_)
 ·simpa using this
 ·rw [ym] at p
  by_cases ci : i < xs.length
  ·rw [if_pos ci] at p
   simp only [rep] at hx;obtain ⟨a1,c1,D,e1,e2,e3,e4⟩:=hx;rcases e4 with e4 | ⟨b1,a,e4,e5⟩
   ·rw [e4] at ci; simp at ci
   ·injection e1 with e1 _ e1c
    rw [e4] at e1;injection e1 with e1;injection e1 with e1a e1b;subst e1a e1b;have J : D = sz:=(by rw [← zcc e3 p,zcc M p]);subst J;exact zfL Q.keeps _ _ _ (zfC e5 p)
  ·rw [if_neg ci] at p
   refine zi7 fun j x O => ?_;obtain ⟨u,q,S,_⟩:=C.2.2 _ e p j x O;have aD:=inside (zb p) (by have:=zb O; have:=zcc C.2.1 p; omega : j < sz)
   have e1 : o + i * sz + j = o + xs.length * sz + ((i - xs.length) * sz + j):=by
    rw [yx];have : xs.length * sz ≤ i * sz:=ya _ (yp ci);omega
   refine ⟨u,.inr ⟨rfl,by omega,by rw [yr]; omega⟩,?_,zc8 Q.keeps x u S⟩;rw [zl2 z,zfO l,if_neg (by omega),if_pos (by rw [C.1]; omega),e1,yg];exact q
theorem drawn (R : Rel g w σ) (m : Nat) : Ext g w σ g (w.drewN m) σ ∧ Rel g (w.drewN m) σ:=by
 have H : Ext g w σ g (w.drewN m) σ:={
  os:=rfl
  tape:=rfl
  output:=rfl
  size:=yd _
  keeps:=fun _ _ h => ⟨h,rfl⟩
  len:=yd _
  shape:=fun id b sz len h => .inl ⟨h,rfl,fun _ arr t a => ⟨arr,a,rfl⟩⟩
  map:=fun id es h => ⟨rfl,es,h⟩
  tok:=fun t k n h => ⟨n,h,yd _,fun _ => rfl⟩
  tsz:=fun _ _ h => h
  ow:=fun _ _ => rfl
  new:=fun _ _ h _ _ => h
  frame:=fun _ _ _ => rfl }
 exact ⟨H,⟨R.nb,fun id o h => zcl H rfl (fun _ => rfl) (fun _ _ _ => ⟨rfl,rfl,fun _ h => h⟩) (R.ob id o h)⟩⟩
theorem zEG (R : Rel g w σ) {t k sz c : Nat} {e : TypeId} {fr : List Nat} {xs ys : List (List Fz)} {us vs : List Value} {arr : Array Value} (f : σ[t]? = some (.tok sz fr)) (u : fr[k]? = some xs.length)
  (V : Lay w g.N sz xs us) (M : Lay w g.N sz ys vs) (W : 0 < xs.length + ys.length) (K : xs.length + ys.length ≤ c) (a : ∃ rest,arr.toList = us ++ vs ++ rest) (B : arr.size = c * sz) (D : 0 < ys.length) :
  ∃ g',Ext g w σ g' (w.alloc (.cells arr e)) (σ.set t (.tok sz (fr.set k (xs.length + ys.length)))) ∧
    Rel g' (w.alloc (.cells arr e)) (σ.set t (.tok sz (fr.set k (xs.length + ys.length)))) ∧
    zF g' (w.alloc (.cells arr e)) (σ.set t (.tok sz (fr.set k (xs.length + ys.length)))) (.ap t k (xs ++ ys)) (.slice (some ⟨w.heap.size,0,none⟩) (xs.length + ys.length) c):=by
 obtain ⟨rest,a⟩:=a;have d:=V.append M;have q:=zaP w (.cells arr e)
 let g' : G:={ g.setTv t k (.slice (some ⟨w.heap.size,0,none⟩) (xs.length + ys.length) c) with ow:=zvM g.ow w.heap.size (.tk t k),N:=fun b1 p => g.N b1 p ∨ (b1 = w.heap.size ∧ p < (xs.length + ys.length) * sz) }
 have z : ∀ b,b < w.heap.size → g'.ow b = g.ow b:=fun b l => zas g.ow (k:=w.heap.size) (i:=b) _ (by omega);have s : ∀ b,b < w.heap.size → zvo g w g' (w.alloc (.cells arr e)) b:=fun b l => ⟨heap_alloc_old w _ l,z b l,fun o h => h.elim id fun h => by omega⟩
 have C:=replace (g':=g') (w':=w.alloc (.cells arr e)) (new:=.tok sz (fr.set k (xs.length + ys.length))) R f (fun _ => False) rfl rfl rfl (by rw [size_alloc]; omega)
  (fun b l _ => s b l) (fun b l => l.elim) (fun b1 p _ h => .inl h) (fun _ _ => rfl) (fun j x r => G.setTv_ne g _ (by simp [r]))
  (fun b1 p h => by
   rw [size_alloc];rcases h with h | h
   ·have:=R.nb b1 p h; omega
   ·omega)
  (fun L S I U => by simp [shapeOf,f,Ob.shape] at U) (fun es h => by cases h)
  (fun x J h => by
   by_cases e : x = k
   ·subst e
    rw [zew f u] at h;injection h with h;subst h;exact ⟨_,zjP f u,by omega,fun e => by omega⟩
   ·obtain ⟨P,O,n,Q⟩:=zdR h
    rw [f] at n;injection n with n;injection n with n k1';subst n k1'
    exact ⟨J,zew (zE f) (by rw [yl (Ne.symm e)]; exact Q),yd _,fun _ => G.setTv_ne g _ (by simp [e])⟩)
  (fun _ _ h => by injection h with h _; exact ⟨_,by rw [h]⟩)
  (fun H => zsn R f (fun x e => G.setTv_ne g _ (by simp [e])) (fun b1 x y _ _ => s b1 y)
   (fun J m => by
    rw [yk] at m;simp [zb u] at m;subst m;refine .inr ⟨w.heap.size,0,c,arr,e,G.setTv_same _ _ _ _,by omega,K,zeV _ _ _,q,by rw [B]; omega,fun p h => ?_⟩;rcases h with h | h
    ·exact absurd (R.nb _ _ h) (yy _)
    ·have:=h.2; omega))
 obtain ⟨E,C⟩:=C;refine ⟨g',E,C,?_⟩;simp only [zF];refine ⟨?_,xs.length + ys.length,zjP f u,by simp,fun _ => (G.setTv_same _ _ _ _).symm,sz,zde (zE f),d.2.1⟩;have:=zxU (w:=w.alloc (.cells arr e)) (N:=g'.N) (b:=w.heap.size) (o:=0) (c:=c) d.2.1 (by simpa using K) (zmy d E.keeps fun j v r => ?_)
 ·simpa using this
 ·have A:=zb r
  rw [d.1,yb] at A;refine ⟨.inr ⟨rfl,by omega⟩,?_⟩;rw [yu,ziJ q,← yw,a,yf (zb r)];exact r
theorem zE8 (R : Rel g w σ) {id d sz n c : Nat} {es ys : List (List C)} {vs : List Value} {a : Option Addr} (l : σ[id]? = some (.cells d sz es)) (y : es ≠ []) (hu : zCQ w (g.ρ id) sz es.length 0 n (.slice a n c))
  (I : vs.length = ys.length * sz) (B : zdS g w σ vs.toArray sz ys) (p : n + ys.length ≤ c) (h0 : 0 < n + ys.length) :
  ∃ arr ty,a = some ⟨g.ρ id,0,none⟩ ∧ w.heap[g.ρ id]? = some (.cells arr ty (0,0)) ∧ n * sz + vs.length ≤ arr.size ∧
    Ext g w σ g (w.setRow (g.ρ id) (zcq arr (n * sz) vs)) (σ.set id (.cells (d + 1) sz (es.take n ++ ys))) ∧
    Rel g (w.setRow (g.ρ id) (zcq arr (n * sz) vs)) (σ.set id (.cells (d + 1) sz (es.take n ++ ys))) ∧
    zF g (w.setRow (g.ρ id) (zcq arr (n * sz) vs)) (σ.set id (.cells (d + 1) sz (es.take n ++ ys))) (.own id (d + 1) 0 (n + ys.length)) (.slice a (n + ys.length) c):=by
 obtain ⟨Z,c',e1,e2,e3,e4⟩:=hu;injection e1 with e1 _ e1c;subst e1 e1c;have r : es.length ≠ 0:=fun h => y (List.eq_nil_of_length_eq_zero h);obtain ⟨f1,f2,arr,ty,f3,f4⟩:=e4 r;obtain ⟨t,O,f,s,z,W,m⟩:=R.ob id _ l y;rw [z] at f3;injection f3 with f3;injection f3 with f3 f3t;subst f3 f3t;have hm : (n + ys.length) * sz ≤ c * sz:=ya _ p;have e : n * sz + vs.length ≤ f.size:=by rw [I]; rw [yr] at hm; rw [yu] at f4; omega
 have Q : g.ρ id < w.heap.size:=(yc.1 z).1
 have K:=replace (g':=g) (w':=w.setRow (g.ρ id) (zcq f (n * sz) vs)) (new:=.cells (d + 1) sz (es.take n ++ ys)) R l (fun b => b = g.ρ id) rfl rfl rfl (by simp)
  (fun b J V => ⟨setRow_other w _ _ _ V,rfl,fun _ h => h⟩)
  (fun b J => ⟨.inl (by rw [J]; exact t),rfl,fun o h => absurd (by rw [J] at h; exact h) (O o)⟩) (fun _ _ _ h => h) (fun _ _ => rfl) (fun _ _ _ => rfl) (fun b o h => by simpa using R.nb b o h)
  (fun P X M A => by
   rw [zC l] at A;injection A with A;injection A with hs1 hs2;injection hs2 with hs2 hs3
   exact .inr ⟨d + 1,_,by rw [zC (zE l),hs2],by omega⟩)
  (fun es' h => by cases h) (fun k n h => by simp [zow,l,Ob.fr] at h)
  (fun _ _ h => by cases h) (fun H N => by
   refine ⟨t,O,_,s,setRow_heap w _ _ _ _ _ z,?_,fun i x q => ?_⟩
   ·rw [zfH e,yb,yi,yt (by omega)]
    rw [yu] at f4;omega
   ·rw [ym] at q
    have Y : (es.take n).length = n:=(by rw [yi]; omega);rw [Y] at q
    by_cases ci : i < n
    ·rw [if_pos ci,List.getElem?_take,if_pos ci] at q
     refine ⟨(m i x q).1,fun j c v => ?_⟩;obtain ⟨u,L,G,D⟩:=(m i x q).2 j c v;have E : j < sz:=(by have:=zb v; have:=(m i x q).1; omega);exact ⟨u,by rw [zfO e,if_pos (inside ci E)]; exact L,H.zF c u G,D⟩
    ·rw [if_neg ci] at q
     refine ⟨(B _ x q).1,fun j c v => ?_⟩;obtain ⟨u,L,G,D⟩:=(B _ x q).2 j c v;have E : j < sz:=(by have:=zb v; have:=(B _ x q).1; omega);have U:=inside (zb q) E
     have e1 : i * sz + j = n * sz + ((i - n) * sz + j):=by
      rw [yx];have : n * sz ≤ i * sz:=ya _ (yp ci);omega
     refine ⟨u,?_,H.zF c u G,D⟩;rw [zfO e,if_neg (by omega),if_pos (by omega),e1,yg]
     simpa using L)
 obtain ⟨S,K⟩:=K;refine ⟨f,s,by simpa using f2 (by omega),z,e,S,K,?_⟩;simp only [zF];refine ⟨d + 1,sz,_,zC (zE l),yd _,fun _ => ⟨a,c,rfl,p,fun h => ?_,fun _ => ⟨?_,f2,zcq f (n * sz) vs,s,setRow_heap w _ _ _ _ _ z,?_⟩⟩,_,_,rfl⟩
 ·rw [yb,yi,yt (by omega)] at h
  omega
 ·rw [yb,yi,yt (by omega)]
  omega
 ·rw [zfH e]; exact f4
theorem zEC (R : Rel g w σ) {id a sz n c : Nat} {e : TypeId} {es ys : List (List C)} {us vs : List Value} {arr : Array Value} (f : σ[id]? = some (.cells a sz es)) (X : n ≤ es.length)
  (D : us.length = n * sz) (P : zdS g w σ us.toArray sz (es.take n)) (W : vs.length = ys.length * sz) (M : zdS g w σ vs.toArray sz ys) (r : n + ys.length ≤ c) (Y : 0 < n + ys.length)
  (l : ∃ rest,arr.toList = us ++ vs ++ rest) (t : arr.size = c * sz) :
  ∃ g',Ext g w σ g' (w.alloc (.cells arr e)) (σ.set id (.cells (a + 1) sz (es.take n ++ ys))) ∧
    Rel g' (w.alloc (.cells arr e)) (σ.set id (.cells (a + 1) sz (es.take n ++ ys))) ∧
    zF g' (w.alloc (.cells arr e)) (σ.set id (.cells (a + 1) sz (es.take n ++ ys))) (.own id (a + 1) 0 (n + ys.length)) (.slice (some ⟨w.heap.size,0,none⟩) (n + ys.length) c):=by
 obtain ⟨rest,l⟩:=l;have s:=zaP w (.cells arr e);have y : (es.take n).length = n:=by rw [yi]; omega
 let g' : G:=g.own id w.heap.size
 have A : ∀ b,b < w.heap.size → g'.ow b = g.ow b:=fun b p => zas g.ow (k:=w.heap.size) (i:=b) _ (by omega);have J : ∀ b,b < w.heap.size → zvo g w g' (w.alloc (.cells arr e)) b:=fun b p => ⟨heap_alloc_old w _ p,A b p,fun o h => h⟩
 have m : ∀ q u,(us ++ vs)[q]? = some u → arr[q]? = some u:=fun q u h => by
  rw [← yw,l,yf (zb h)];exact h
 have I:=replace (g':=g') (w':=w.alloc (.cells arr e)) (new:=.cells (a + 1) sz (es.take n ++ ys)) R f (fun _ => False) rfl rfl rfl (by rw [size_alloc]; omega)
  (fun b p _ => J b p) (fun b p => p.elim) (fun b1 Q _ h => h) (fun j U => zas g.ρ (k:=id) (i:=j) _ U) (fun _ _ _ => rfl)
  (fun b1 Q h => by rw [size_alloc]; have:=R.nb b1 Q h; omega)
  (fun O V L z => by
   rw [zC f] at z;injection z with z;injection z with hs1 hs2;injection hs2 with hs2 hs3
   exact .inr ⟨a + 1,_,by rw [zC (zE f),hs2],by omega⟩)
  (fun es' h => by cases h) (fun k n h => by simp [zow,f,Ob.fr] at h)
  (fun _ _ h => by cases h) (fun H N => by
   refine ⟨by simp [g',G.own],fun o h => absurd (R.nb _ _ (by simpa [g',G.own] using h)) (yy _),arr,e,by simpa [g',G.own] using s,?_,fun i x d => ?_⟩
   ·rw [t,yb,y]
    exact ya _ r
   ·rw [ym,y] at d
    by_cases ci : i < n
    ·rw [if_pos ci] at d
     refine ⟨(P i x d).1,fun j c r => ?_⟩;obtain ⟨u,K,E,B⟩:=(P i x d).2 j c r;refine ⟨u,m _ u ?_,H.zF c u E,B⟩;have v : us[i * sz + j]? = some u:=(by simpa using K);rw [yf (zb v)];exact v
    ·rw [if_neg ci] at d
     refine ⟨(M _ x d).1,fun j c r => ?_⟩;obtain ⟨u,K,E,B⟩:=(M _ x d).2 j c r;refine ⟨u,m _ u ?_,H.zF c u E,B⟩
     have e1 : i * sz + j = us.length + ((i - n) * sz + j):=by
      rw [D,yx];have : n * sz ≤ i * sz:=ya _ (yp ci);omega
     rw [e1,List.getElem?_append_right (by omega),yg]
     simpa using K)
 obtain ⟨S,I⟩:=I;refine ⟨g',S,I,?_⟩;simp only [zF];refine ⟨a + 1,sz,_,zC (zE f),yd _,fun _ => ⟨_,c,rfl,r,fun h => ?_,fun _ => ⟨?_,fun _ => by simp [g',G.own],arr,e,by simpa [g',G.own] using s,by rw [t,yu]; exact yd _⟩⟩,_,_,rfl⟩
 ·rw [yb,y] at h
  omega
 ·rw [yb,y]
  omega
theorem map_set (R : Rel g w σ) {id clock clock' : Nat} {es es' : List (Int × V)} {zX ents' : Array MapEntry} (a : σ[id]? = some (.mp es)) (r : w.heap[g.ρ id]? = some (.map zX clock))
  (hm : ∀ {g' : G} {w' : World} {σ' : zd},Ext g w σ g' w' σ' → zmq g' w' σ' es' ents'.toList clock') :
  Ext g w σ g { w with heap:=w.heap.setIfInBounds (g.ρ id) (.map ents' clock') } (σ.set id (.mp es')) ∧ Rel g { w with heap:=w.heap.setIfInBounds (g.ρ id) (.map ents' clock') } (σ.set id (.mp es')):=by
 obtain ⟨c,i,_,_,_,_⟩:=R.ob id _ a;have d : g.ρ id < w.heap.size:=(yc.1 r).1
 refine replace (g':=g) R a (fun b => b = g.ρ id) rfl rfl rfl (by simp) (fun b e l => ⟨?_,rfl,fun _ h => h⟩)
  (fun b e => ⟨.inl (by rw [e]; exact c),rfl,fun o h => absurd (by rw [e] at h; exact h) (i o)⟩) (fun _ _ _ h => h) (fun _ _ => rfl) (fun _ _ _ => rfl) (fun b o h => by simpa using R.nb b o h)
  (fun j m f q => by simp [shapeOf,a,Ob.shape] at q) (fun p h => ⟨rfl,es',rfl⟩) (fun k n h => by simp [zow,a,Ob.fr] at h)
  (fun _ _ h => by cases h) (fun H => ⟨c,i,ents',clock',?_,hm H⟩)
 ·simp only [ye]
  rw [if_neg (Ne.symm l)]
 ·simp only [ye]
  simp [d]
end
def zBH : Value → Value → Bool
 | .bool a,.bool b => a == b
 | .int k a,.int k' b => decide (k = k') && decide (a = b)
 | .string a,.string b => decide (a = b)
 | .pointer none,.pointer none => true
 | .map none,.map none => true
 | .nilFunc,.nilFunc => true
 | .slice none 0 0,.slice none 0 0 => true
 | _,_ => false
theorem zur {u v : Value} (h : zBH u v = true) : u = v ∧ zBx v = true:=by
 unfold zBH at h;split at h <;> simp_all [zBx]
def zxl : Value → C → Bool
 | .slice none 0 0,.f (.sl []) => true
 | v,.f (.lit v') => zBH v v'
 | _,_ => false
def zgm : List Value → List C → Bool
 | [],[] => true
 | v :: vs,c :: cs => zxl v c && zgm vs cs
 | _,_ => false
def zqG : Value → V → Bool
 | .agg us,.agg cs => zgm us.toList cs
 | v,.one c => zxl v c
 | _,_ => false
section
variable {g : G} {w : World} {σ : zd}
theorem zo8 {v : Value} {c : C} (h : zxl v c = true) : zF g w σ c v ∧ v.oneCell' = true:=by
 unfold zxl at h;split at h
 ·refine ⟨?_,rfl⟩
  rw [zF,rep];exact ⟨none,0,0,rfl,yd _,by simp only [zcs],.inl rfl⟩
 ·obtain ⟨e,a⟩:=zur h
  subst e;refine ⟨by rw [zF,rep]; exact ⟨rfl,a⟩,?_⟩;cases v <;> simp_all [zBx,Value.oneCell']
 ·cases h
theorem za3 : ∀ {vs : List Value} {cs : List C},zgm vs cs = true → zA g w σ cs vs ∧ ∀ v ∈ vs,v.oneCell' = true
 | [],[],_ => by simp [zA]
 | v :: vs,c :: cs,h => by
   simp only [zgm,yj] at h;obtain ⟨b,e⟩:=zo8 (g:=g) (w:=w) (σ:=σ) h.1;obtain ⟨a,d⟩:=za3 h.2;refine ⟨by simp only [zA]; exact ⟨v,vs,rfl,b,a⟩,fun u hu => ?_⟩;rcases List.mem_cons.1 hu with rfl | hu
   ·exact e
   ·exact d u hu
 | [],_ :: _,h => by simp [zgm] at h
 | _ :: _,[],h => by simp [zgm] at h
theorem zge {v : Value} {x : V} (h : zqG v x = true) : zh g w σ x v:=by
 unfold zqG at h;split at h
 ·rename_i us cs
  simp only [zh];exact ⟨us,rfl,(za3 h).1⟩
 ·simp only [zh]
  exact (zo8 h).1
 ·cases h
end
def okX (κ : List Tmp) (loc : List (Option Tmp)) : Operand → X → Bool
 | .tmp t,.s i => κ[i]? == some t
 | .tmp t,.l d => loc[d]? == some (some t) && (loc.take d).all (· != some t)
 | .const v,.c x => zqG v x
 | .func f,.c (.one (.fn f' [] [])) => f == f'
 | _,_ => false
structure Fr (κ : List Tmp) (loc : List (Option Tmp)) (nt : Nat) (g : G) (w : World) (r : R) (a : Act) : Prop where
 size : a.tmps.size = nt
 len : r.env.length = κ.length
 env : ∀ (i : Nat) (t : Tmp),κ[i]? = some t → zh g w r.st (r.env.getD i vun) (a.tmps.getD t undef)
 lc : ∀ (d : Nat) (t : Tmp),loc[d]? = some (some t) → (loc.take d).all (· != some t) = true → zh g w r.st (r.rs.getD d vun) (a.tmps.getD t undef)
 lk : ∀ (d : Nat) (t : Tmp),loc[d]? = some (some t) → t ∉ κ
 nd : κ.Nodup
 bd : ∀ t ∈ κ,t < nt
 df : a.defers = []
section
variable {κ : List Tmp} {loc : List (Option Tmp)} {nt : Nat} {g : G} {w : World} {r : R} {a : Act}
theorem Fr.get (F : Fr κ loc nt g w r a) {x : Operand} {y : X} (h : okX κ loc x y = true) : zh g w r.st (r.get y) (a.eval x):=by
 unfold okX at h;split at h
 ·exact F.env _ _ (by simpa using h)
 ·simp only [yj,beq_iff_eq] at h
  exact F.lc _ _ h.1 h.2
 ·exact zge h
 ·rename_i f f'
  have e : f = f':=by simpa using h
  subst e;simp only [R.get,Act.eval,zh,zF];exact ⟨_,_,rfl,by simp [zA],by simp [zA]⟩
 ·cases h
theorem Fr.ext {g' : G} {w' : World} {r' : R} (F : Fr κ loc nt g w r a) (H : Ext g w r.st g' w' r'.st) (he : r'.env = r.env) (b : r'.rs = r.rs) : Fr κ loc nt g' w' r' a :=
 ⟨F.size,by rw [he]; exact F.len,fun i t h => by rw [he]; exact H.zh _ _ (F.env i t h),fun d t h c => by rw [b]; exact H.zh _ _ (F.lc d t h c),F.lk,F.nd,F.bd,F.df⟩
def okD (κ : List Tmp) (nt : Nat) : Option Tmp → D → Bool
 | none,.no => true
 | some t,.loc => !κ.contains t && decide (t < nt)
 | some t,.slot i => κ[i]? == some t
 | _,_ => false
def zbp : Option Tmp → D → Option Tmp
 | some t,.loc => some t
 | _,_ => none
theorem zij {a : Array Value} {t b : Nat} {u : Value} : (a.setIfInBounds t u).getD b undef = if t = b ∧ t < a.size then u else a.getD b undef:=by
 simp only [Array.getD_eq_getD_getElem?,ye]
 by_cases h : t = b
 ·subst h
  by_cases c : t < a.size <;> simp [c]
 ·simp [h]
theorem ziH {α : Type} (x : α) (l : List α) (d : Nat) (z : α) : (x :: l).getD (d + 1) z = l.getD d z:=by simp
theorem Fr.put (F : Fr κ loc nt g w r a) {t : Option Tmp} {d : D} (h : okD κ nt t d = true) {v : V} {u : Value} (q : d ≠ .no → zh g w r.st v u) : Fr κ (zbp t d :: loc) nt g w (r.put d v) (a.put t u):=by
 unfold okD at h;split at h
 ·
  refine ⟨F.size,F.len,F.env,fun c f b k => ?_,fun c f b => ?_,F.nd,F.bd,F.df⟩
  ·cases c with
   | zero => simp [zbp] at b
   | succ c =>
     simp only [R.put,ziH];exact F.lc c f (by simpa using b) (by simpa [yh,zbp] using k)
  ·cases c with
   | zero => simp [zbp] at b
   | succ c => exact F.lk c f (by simpa using b)
 ·
  rename_i t;simp only [yj,Bool.not_eq_true',decide_eq_true_eq] at h;have s : t ∉ κ:=by simpa using h.1
  have p : t < a.tmps.size:=by rw [F.size]; exact h.2
  refine ⟨by simp [Act.put,F.size],F.len,fun i f b => ?_,fun c f b k => ?_,fun c f b => ?_,F.nd,F.bd,F.df⟩
  ·have j : t ≠ f:=fun e => s (by rw [e]; exact yn b)
   simp only [Act.put,zij,j,false_and,if_false];exact F.env i f b
  ·cases c with
   | zero =>
     simp [zbp] at b;subst b;simp only [Act.put,zij,p,and_self,if_true];exact q (by simp)
   | succ c =>
     have j : t ≠ f:=fun e => by
      subst e;simp [yh,zbp] at k
     simp only [Act.put,zij,j,false_and,if_false,R.put,ziH];refine F.lc c f (by simpa using b) ?_;rw [yh,yz,yj] at k;exact k.2
  ·cases c with
   | zero => simp [zbp] at b; subst b; exact s
   | succ c => exact F.lk c f (by simpa using b)
 ·
  rename_i t i;have l : κ[i]? = some t:=by simpa using h
  have p : t < a.tmps.size:=by rw [F.size]; exact F.bd t (yn l)
  have n : i < r.env.length:=by rw [F.len]; exact zb l
  refine ⟨by simp [Act.put,F.size],by simp [R.put,F.len],fun o f b => ?_,fun c f b k => ?_,fun c f b => ?_,F.nd,F.bd,F.df⟩
  ·simp only [Act.put,zij,R.put,yo,yk]
   by_cases e : t = f
   ·subst e
    have : i = o:=(List.getElem?_inj (zb l) F.nd).1 (l.trans b.symm);subst this;simp only [p,and_self,if_true,n,Option.getD_some];exact q (by simp)
   ·have : i ≠ o:=fun x => e (by subst x; rw [l] at b; injection b)
    simp only [e,false_and,if_false,this];have:=F.env o f b
    rwa [yo] at this
  ·cases c with
   | zero => simp [zbp] at b
   | succ c =>
     have m : loc[c]? = some (some f):=(by simpa using b);have j : t ≠ f:=fun e => F.lk c f m (by rw [← e]; exact yn l);simp only [Act.put,zij,j,false_and,if_false,R.put,ziH];refine F.lc c f m ?_;rw [yh,yz,yj] at k;exact k.2
  ·cases c with
   | zero => simp [zbp] at b
   | succ c => exact F.lk c f (by simpa using b)
 ·cases h
end
def zjg (P : Program) (t : TypeId) : Option Nat:=(P.info? t).map (·.size)
def zlM (P : Program) (t : TypeId) : Option Bool:=(P.underlying t).map fun d => match d with
 | .struct _ | .array _ _ => true
 | _ => false
section
variable {P : Program} {κ : List Tmp} {loc : List (Option Tmp)} {nt : Nat} {g : G} {w : World} {r r' : R} {a : Act} {o : Go.Oper} {d : D} {next : Act → World → Prop} {Q : Exit → Act → World → Prop}
theorem zm1 {u : Value} {w' : World} (h : (execOp a.eval o).run P w = .ok (.value u) w') (k : next (a.put o.dst u) w') : o.wp P a w next Q:=by
 unfold Oper.wp;rw [h];exact k
theorem zyd {w' : World} (h : (execOp a.eval o).run P w = .ok .skip w') (k : next (a.put o.dst undef) w') : o.wp P a w next Q:=by
 unfold Oper.wp;rw [h];exact k
theorem zfw (r : R) (d : D) (v : V) : (r.put d v).st = r.st:=by cases d <;> rfl
theorem z7 {σ : zd} {v u : Value} (h : zh g w σ (.one (.f (.lit v))) u) : u = v ∧ zBx v = true:=by
 simpa only [zh,zF,rep] using h
theorem zae {σ : zd} {v : Value} (h : zBx v = true) : zh g w σ (.one (.f (.lit v))) v:=by
 rw [zh,zF,rep];exact ⟨rfl,h⟩
theorem zru (op : BinOp) (t : TypeId) (x y : Operand) (f : TypeId) (e : o.op = .binOp op t x y f) {k b : IntKind} {m n : Int} (c : a.eval x = .int k m) (d : a.eval y = .int b n) :
  (execOp a.eval o).run P w = ((do let v ← binOp op t (.int k m) (.int b n); pure (Next.value v) : Sem Next)).run P w:=by
 unfold execOp;simp only [e,c,d,eqGuard];cases op <;> simp
theorem zyr {op : BinOp} {t : TypeId} {x y : Operand} {j : TypeId} (q : o.op = .binOp op t x y j) {i f v : V} (s : zh g w r.st i (a.eval x)) (l : zh g w r.st f (a.eval y)) (h : zIm op i f = some v) :
  ∃ u,(execOp a.eval o).run P w = .ok (.value u) w ∧ zh g w r.st v u:=by
 unfold zIm at h;split at h
 ·rename_i k m z n
  obtain ⟨ex,_⟩:=z7 s;obtain ⟨ey,_⟩:=z7 l;rw [zru op t x y j q ex ey];split at h
  ·rename_i d
   unfold zA5 at h;split at h
   ·rename_i b
    have c : ¬ n < 0:=by omega
    cases op <;> simp [zte] at d <;> simp only [Option.some.injEq] at h <;> subst h <;>
     exact ⟨_,by simp [binOp,Op.shift,c],zae rfl⟩
   ·cases h
  ·rename_i d
   split at h
   ·rename_i p
    subst p;unfold zIK at h;cases op <;> simp [zte] at d <;> simp only at h
    case quo =>
     split at h
     ·cases h
     ·rename_i b
      injection h with h;subst h;exact ⟨_,by simp [binOp,Op.intDiv,b],zae rfl⟩
    case rem =>
     split at h
     ·cases h
     ·rename_i b
      injection h with h;subst h;exact ⟨_,by simp [binOp,Op.intDiv,b],zae rfl⟩
    case andNot => cases h
    all_goals
     injection h with h;subst h;refine ⟨_,?_,zae rfl⟩;simp [binOp,Op.intArith,Op.intBits,Op.intCmp]
    all_goals (by_cases e : m = n <;> simp [e])
   ·cases h
 ·cases h
theorem zsI {x : Operand} (b : o.op = .move x ∨ o.op = .assign x) : (execOp a.eval o).run P w = .ok (.value (a.eval x)) w:=by
 unfold execOp;rcases b with b | b <;> simp [b]
theorem zy4 {c x y : Operand} (k : o.op = .pick c x y) {b d e v : V} (f : zh g w r.st b (a.eval c)) (i : zh g w r.st d (a.eval x)) (j : zh g w r.st e (a.eval y)) (h : zEV d e b = some v) :
  ∃ u,(execOp a.eval o).run P w = .ok (.value u) w ∧ zh g w r.st v u:=by
 unfold zEV at h;split at h
 ·rename_i t
  obtain ⟨ec,_⟩:=z7 f;injection h with h;subst h;refine ⟨if t then a.eval x else a.eval y,?_,?_⟩
  ·unfold execOp
   simp [k,ec,asBool]
  ·cases t
   ·simpa using j
   ·simpa using i
 ·cases h
theorem zBq {op : UnOp} {t : TypeId} {x : Operand} (d : o.op = .unOp op t x) {c v : V} (b : zh g w r.st c (a.eval x)) (h : aun op c = some v) :
  ∃ u,(execOp a.eval o).run P w = .ok (.value u) w ∧ zh g w r.st v u:=by
 unfold aun at h;split at h
 ·obtain ⟨ex,_⟩:=z7 b
  injection h with h;subst h;exact ⟨_,by unfold execOp; simp [d,ex,Op.unary],zae rfl⟩
 ·obtain ⟨ex,_⟩:=z7 b
  injection h with h;subst h;exact ⟨_,by unfold execOp; simp [d,ex,Op.unary,Op.intArith],zae rfl⟩
 ·cases h
theorem zy5 {k : IntKind} {s t : TypeId} {x : Operand} (f : o.op = .convert s t x) (b : (P.underlying s).isSome = true) (e : P.underlying t = some (.int k)) {c v : V} (d : zh g w r.st c (a.eval x)) (h : zDE k c = some v) :
  ∃ u,(execOp a.eval o).run P w = .ok (.value u) w ∧ zh g w r.st v u:=by
 unfold zDE at h;split at h
 ·obtain ⟨ex,_⟩:=z7 d
  injection h with h;subst h;obtain ⟨ds,b⟩:=Option.isSome_iff_exists.1 b;exact ⟨_,by unfold execOp; simp [f,ex,convert,run_underlying b,run_underlying e,Conv.intToInt],zae rfl⟩
 ·cases h
theorem zsS {σ : zd} {xs : List (List Fz)} {u : Value} (h : zh g w σ (.one (.f (.sl xs))) u) : rep w g.N (.sl xs) u:=by simpa only [zh,zF] using h
theorem zs5 {σ : zd} {t k : Nat} {xs : List (List Fz)} {u : Value} (h : zh g w σ (.one (.ap t k xs)) u) : rep w g.N (.sl xs) u:=by
 simp only [zh,zF] at h;exact h.1
theorem zkQ {N : zgY} {xs : List (List Fz)} {u : Value} (h : rep w N (.sl xs) u) : ∃ a c,u = .slice a xs.length c ∧ xs.length ≤ c:=by
 simp only [rep] at h;obtain ⟨a,c,_,e,b,_⟩:=h;exact ⟨a,c,e,b⟩
theorem zhp {σ : zd} {id b lo n : Nat} {u : Value} (h : zh g w σ (.one (.own id b lo n)) u) {sz : Nat} {es : List (List C)} (e : σ[id]? = some (.cells b sz es)) : zCQ w (g.ρ id) sz es.length lo n u:=by
 simp only [zh,zF] at h;obtain ⟨v0,d,len,a,_,c,_⟩:=h;rw [zC e] at a;injection a with a;injection a with e1 a;injection a with e2 e3;subst e1 e2 e3;exact c rfl
theorem zy8 {σ : zd} {v : V} {u : Value} {n : V} (h : zh g w σ v u) (a : zHV v = some n) : ∃ b k c,u = .slice b k c ∧ n = zER .i64 k:=by
 unfold zHV at a;split at a
 ·simp only [zh,zF] at h
  obtain ⟨_,_,_,_,_,_,b,c,e⟩:=h;injection a with a;exact ⟨b,_,c,e,a.symm⟩
 ·obtain ⟨b,d,e,_⟩:=zkQ (zsS h)
  injection a with a;exact ⟨b,_,d,e,a.symm⟩
 ·obtain ⟨b,d,e,_⟩:=zkQ (zs5 h)
  injection a with a;exact ⟨b,_,d,e,a.symm⟩
 ·cases a
theorem zC1 {t : TypeId} {x : Operand} {c : Go.Call} (n : o.op = .call c) (j : c.callee = .builtin .len) (d : c.args = #[x]) (f : c.argTypes = #[t]) {e : TypeId} (m : P.underlying t = some (.slice e))
  {i v : V} (l : zh g w r.st i (a.eval x)) (h : zHV i = some v) :
  ∃ u,(execOp a.eval o).run P w = .ok (.value u) w ∧ zh g w r.st v u:=by
 obtain ⟨b,k,p,e,rfl⟩:=zy8 l h;refine ⟨.int .i64 k,?_,zae rfl⟩;unfold execOp;simp [n,resolve,j,d,f,e,invoke,builtin,Builtin.len_,run_underlying m,goInt]
theorem zqm {t : TypeId} {fs : Array Field} {i : Nat} {f : Field} {ad : Addr} {n : Nat} (d : P.underlying t = some (.struct fs)) (e : fs[i]? = some f) (b : zjg P f.type = some n) (g : n ≠ 0) :
  (Instr.fieldAt t (.pointer (some ad)) i).run P w = .ok (.pointer (some (ad.add f.offset))) w:=by
 unfold zjg at b
 cases a : P.info? f.type with
 | none => simp [a] at b
 | some inf =>
   have c : inf.size = n:=(by simpa [a] using b);simp [Instr.fieldAt,run_underlying d,e,Instr.sureAddr,fieldPlace,sizeOf,typeInfo,a,c,g]
theorem zaW (b o j : Nat) : (⟨b,o,none⟩ : Addr).add j = ⟨b,o + j,none⟩:=by unfold Addr.add; split <;> simp_all
theorem zE5 {t : TypeId} {x : Operand} {i n off : Nat} {fs : Array Field} {f : Field} (B : o.op = .fieldAddr t x i) (z : P.underlying t = some (.struct fs)) (s : fs[i]? = some f) (E : zjg P f.type = some n) (C : n ≠ 0) (c : f.offset = off)
  {p v : V} (d : zh g w r.st p (a.eval x)) (h : afa off p = some v) :
  ∃ u,(execOp a.eval o).run P w = .ok (.value u) w ∧ zh g w r.st v u:=by
 have key : ∀ ad,a.eval x = .pointer (some ad) → (execOp a.eval o).run P w = .ok (.value (.pointer (some (ad.add off)))) w:=fun ad e => by
  unfold execOp;simp only [B,e];simp [zqm (w:=w) (ad:=ad) z s E C,c]
 unfold afa at h;split at h
 ·rename_i id D j y
  injection h with h;subst h;simp only [zh,zF] at d;obtain ⟨v0,sz,len,k,l,q,ad,m⟩:=d;refine ⟨_,key ad m,?_⟩;simp only [zh,zF];refine ⟨v0,sz,len,k,l,fun e => ?_,_,rfl⟩;have:=q e;rw [m] at this;injection this with this;injection this with this;rw [this,zaW,yq]
 ·rename_i cs y
  injection h with h;subst h;simp only [zh,zF] at d;obtain ⟨b,A,k,l⟩:=d;refine ⟨_,key _ k,?_⟩;simp only [zh,zF];exact ⟨b,A,by rw [zaW,yq],l⟩
 ·cases h
theorem zqg {t e : TypeId} {k : IntKind} {n : Int} {ad : Addr} {len cap sz : Nat} (d : P.underlying t = some (.slice e)) (b : zjg P e = some sz) (f : 0 ≤ n) (g : n < len) :
  (Instr.indexAt t (.slice (some ad) len cap) (.int k n)).run P w = .ok (.pointer (some (ad.add (n.toNat * sz)))) w:=by
 unfold zjg at b
 cases a : P.info? e with
 | none => simp [a] at b
 | some inf =>
   have c : inf.size = sz:=(by simpa [a] using b);simp [Instr.indexAt,asIntOf,run_underlying d,f,g,sizeOf,typeInfo,a,c]
theorem zrv {t e : TypeId} {k : IntKind} {n : Int} {ad : Addr} {len sz : Nat} (d : P.underlying t = some (.array len e)) (b : zjg P e = some sz) (f : 0 ≤ n) (g : n < len) :
  (Instr.indexAt t (.pointer (some ad)) (.int k n)).run P w = .ok (.pointer (some (ad.add (n.toNat * sz)))) w:=by
 unfold zjg at b
 cases a : P.info? e with
 | none => simp [a] at b
 | some inf =>
   have c : inf.size = sz:=(by simpa [a] using b);simp [Instr.indexAt,asIntOf,run_underlying d,f,g,sizeOf,typeInfo,a,c,Instr.sureAddr]
theorem zlI {a sz : Nat} {b : Ob} (h : b.isRow a sz = true) : ∃ es,b = .cells a sz es:=by
 unfold Ob.isRow at h;split at h
 ·simp at h
  obtain ⟨rfl,rfl⟩:=h;exact ⟨_,rfl⟩
 ·cases h
theorem zuZ {t e : TypeId} {x i : Operand} {sz : Nat} (z : o.op = .indexAddr t x i) (y : P.underlying t = some (.slice e)) (B : zjg P e = some sz) {xs : List (List Fz)} {k : IntKind} {n : Int} (q : rep w g.N (.sl xs) (a.eval x)) (A : a.eval i = .int k n)
  {v : V} (C : 0 ≤ n) (h : (xs[n.toNat]?).bind (zIa sz) = some v) : ∃ u,(execOp a.eval o).run P w = .ok (.value u) w ∧ zh g w r.st v u:=by
 rw [yv] at h;obtain ⟨el,j,f⟩:=h;unfold zIa at f;split at f
 ·rename_i l
  injection f with f;subst f;simp only [rep] at q;obtain ⟨ad,c,d,e1,e2,e3,e4⟩:=q;rcases e4 with rfl | ⟨b,p,rfl,e4⟩
  ·simp at j
  ·have s:=zb j
   have m : d = sz:=(by rw [← zcc e3 j,l]);subst m;refine ⟨.pointer (some ⟨b,p + n.toNat * d,none⟩),?_,?_⟩
   ·unfold execOp
    simp only [z,e1,A];simp [zqg (w:=w) (ad:=⟨b,p,none⟩) (cap:=c) y B C (by omega : n < (xs.length : Int)),zaW]
   ·simp only [vfp,zh,zF]
    exact ⟨b,p + n.toNat * d,rfl,zfC e4 j⟩
 ·cases f
theorem zFb {t e : TypeId} {x i : Operand} {sz : Nat} (p : o.op = .indexAddr t x i) (j : P.underlying t = some (.slice e)) (y : zjg P e = some sz)
  {B A v : V} (z : zh g w r.st B (a.eval x)) (q : zh g w r.st A (a.eval i)) (h : aia r.st sz B A = some v) :
  ∃ u,(execOp a.eval o).run P w = .ok (.value u) w ∧ zh g w r.st v u:=by
 unfold aia at h;split at h
 ·rename_i id s lo n k m
  obtain ⟨ei,_⟩:=z7 q;split at h
  ·rename_i hm
   rw [yv] at h;obtain ⟨D,C,b⟩:=h;unfold zt4 at b;split at b
   ·rename_i d
    injection b with b;subst b;obtain ⟨es,rfl⟩:=zlI d;obtain ⟨ad,c,e1,e2,e3,e4⟩:=zhp z C;have l : es.length ≠ 0:=fun f => by have:=e3 f; omega
    obtain ⟨f1,f2,_⟩:=e4 l;have f3:=f2 (by omega);subst f3;refine ⟨.pointer (some ⟨g.ρ id,lo * sz + m.toNat * sz,none⟩),?_,?_⟩
    ·unfold execOp
     simp only [p,e1,ei];simp [zqg (w:=w) (ad:=⟨g.ρ id,lo * sz,none⟩) (cap:=c) j y hm.1 hm.2,zaW]
    ·simp only [zh,zF]
     exact ⟨s,sz,es.length,zC C,yd _,fun _ => by rw [yr,Nat.add_zero],_,rfl⟩
   ·cases b
  ·cases h
 ·obtain ⟨ei,_⟩:=z7 q
  split at h
  ·rename_i f
   exact zuZ p j y (zsS z) ei f h
  ·cases h
 ·obtain ⟨ei,_⟩:=z7 q
  split at h
  ·rename_i f
   exact zuZ p j y (zs5 z) ei f h
  ·cases h
 ·cases h
theorem zAP {t e : TypeId} {x i : Operand} {len sz : Nat} (C : o.op = .indexAddr t x i) (z : P.underlying t = some (.array len e)) (D : zjg P e = some sz)
  {s n v : V} (d : zh g w r.st s (a.eval x)) (q : zh g w r.st n (a.eval i)) (h : zIo len sz s n = some v) :
  ∃ u,(execOp a.eval o).run P w = .ok (.value u) w ∧ zh g w r.st v u:=by
 have key : ∀ ad k m,a.eval x = .pointer (some ad) → a.eval i = .int k m → 0 ≤ m ∧ m < len → (execOp a.eval o).run P w = .ok (.value (.pointer (some (ad.add (m.toNat * sz))))) w:=fun ad k m e A hm => by
  unfold execOp;simp only [C,e,A];simp [zrv (w:=w) (ad:=ad) z D hm.1 hm.2]
 unfold zIo at h;split at h
 ·obtain ⟨ei,_⟩:=z7 q
  split at h
  ·rename_i hm
   injection h with h;subst h;simp only [zh,zF] at d;obtain ⟨v0,f,c,j,l,y,ad,p⟩:=d;refine ⟨_,key ad _ _ p ei hm,?_⟩;simp only [zh,zF];refine ⟨v0,f,c,j,l,fun e => ?_,_,rfl⟩;have:=y e;rw [p] at this;injection this with this;injection this with this;rw [this,zaW,yq]
  ·cases h
 ·obtain ⟨ei,_⟩:=z7 q
  split at h
  ·rename_i hm
   injection h with h;subst h;simp only [zh,zF] at d;obtain ⟨b,B,j,l⟩:=d;refine ⟨_,key _ _ _ j ei hm,?_⟩;simp only [zh,zF];exact ⟨b,B,by rw [zaW,yq],l⟩
  ·cases h
 ·cases h
end
end Go.A

/- A part of the proof of SchedFlat. Conditions: none. -/
import Derived.Test.YtmkncmffaaninaaGreatFAB
import Derived.Orders
import Derived.Laws.Entries
import Derived.Laws.Small
import Derived.ChangeKeysEq
set_option linter.all false
open Nat renaming mul_le_mul_right → ya,le_refl → yd,add_sub_cancel_left → yg,le_of_not_lt → yp,add_assoc → yq,add_mul → yr,min_eq_left → yt,zero_add → yu,sub_mul → yx,lt_irrefl → yy
open List renaming length_append → yb,getElem?_append_left → yf,take_succ_cons → yh,length_take → yi,getElem?_set → yk,getElem?_set_ne → yl,getElem?_append → ym,mem_of_getElem? → yn,getD_eq_getElem?_getD → yo,all_cons → yz
open Array renaming getElem?_eq_some_iff → yc,getElem?_setIfInBounds → ye,getElem?_toList → yw
open Bool renaming and_eq_true → yj
open Option renaming bind_eq_some_iff → yv
namespace Go.A
section
variable {g : G} {w : World} {σ : zd}
theorem zla {w : World} {b i : Nat} {arr a : Array Value} {t : TypeId} (h : w.heap[b]? = some (.cells arr t (0,0))) : (w.setRow b a).cell? ⟨b,i,none⟩ = a[i]?:=cell_setRow_same w b i arr a t (0,0) h
theorem zh1 {w : World} {b i : Nat} {arr : Array Value} {t : TypeId} {fr : Nat × Nat} (h : w.heap[b]? = some (.cells arr t fr)) : w.cell? ⟨b,i,none⟩ = arr[i]?:=by simp [World.cell?,h]
theorem zqE {g' : G} {w' : World} {t k n sz : Nat} {fr : List Nat} (R : Rel g w σ) (x : σ[t]? = some (.tok sz fr)) (i : ∀ k',k' ≠ k → g'.tv t k' = g.tv t k') (f : ∀ b k',b < w.heap.size → g.ow b = .tk t k' → k' ≠ k → zs6 g w g' w' b)
  (p : ∀ n',(fr.set k n)[k]? = some n' → (n' = 0 ∧ ∃ a,g'.tv t k = .slice a 0 0) ∨
   ∃ b o c arr ty,g'.tv t k = .slice (some ⟨b,o,none⟩) n' c ∧ 0 < c ∧ n' ≤ c ∧ g'.ow b = .tk t k ∧ w'.heap[b]? = some (.cells arr ty (0,0)) ∧ o + c * sz ≤ arr.size ∧ ∀ o',g'.N b o' → o' < o + n' * sz) : zAO g' w' (σ.set t (.tok sz (fr.set k n))) t (.tok sz (fr.set k n)):=by
 intro k' n' h
 by_cases e : k' = k
 ·subst e; exact p n' h
 ·rw [yl (Ne.symm e)] at h
  rw [i k' e];rcases R.ob t _ x k' n' h with h | ⟨b,o,c,arr,ty,s,m,u,l,j,z,q⟩
  ·exact .inl h
  ·obtain ⟨r,v,y⟩:=f b k' (yc.1 j).1 l e
   exact .inr ⟨b,o,c,arr,ty,s,m,u,v.trans l,r.trans j,z,fun o' d => q o' (y o' d)⟩
theorem zi6 {t k n a sz : Nat} {fr : List Nat} (c : σ[t]? = some (.tok sz fr)) (b : fr[k]? = some n) : zmP (σ.set t (.tok sz (fr.set k a))) t k = some a:=by
 refine zdG (zB c) ?_;rw [yk];simp [zb b]
theorem zBm (R : Rel g w σ) {t k sz b o c : Nat} {fr : List Nat} {xs ys : List (List Fz)} {vs : List Value} (m : σ[t]? = some (.tok sz fr)) (L : fr[k]? = some xs.length) (hu : g.tv t k = .slice (some ⟨b,o,none⟩) xs.length c)
  (aE : 0 < xs.length + ys.length) (V : rep w g.N (.sl xs) (.slice (some ⟨b,o,none⟩) xs.length c)) (M : zbO sz xs) (E : Lay w g.N sz ys vs) (f : xs.length + ys.length ≤ c) :
  ∃ arr ty g',w.heap[b]? = some (.cells arr ty (0,0)) ∧ o + xs.length * sz + vs.length ≤ arr.size ∧
    Ext g w σ g' (w.setRow b (zcP arr (o + xs.length * sz) vs)) (σ.set t (.tok sz (fr.set k (xs.length + ys.length)))) ∧
    Rel g' (w.setRow b (zcP arr (o + xs.length * sz) vs)) (σ.set t (.tok sz (fr.set k (xs.length + ys.length)))) ∧
    zy g' (w.setRow b (zcP arr (o + xs.length * sz) vs)) (σ.set t (.tok sz (fr.set k (xs.length + ys.length)))) (.ap t k (xs ++ ys)) (.slice (some ⟨b,o,none⟩) (xs.length + ys.length) c):=by
 have K:=R.ob t _ m k _ L;rcases K with ⟨h0,a0,v⟩ | ⟨b',o',c',arr,ty,y,_,h3,P,A,h6,Z⟩
 ·rw [hu] at v
  injection v with _ _ v;omega
 rw [hu] at y;injection y with y _ h1c;injection y with y;injection y with h1a h1b;subst h1a h1b h1c;have hm : (xs.length + ys.length) * sz ≤ c * sz:=ya _ f;rw [yr] at hm;have l : o + xs.length * sz + vs.length ≤ arr.size:=by rw [E.1]; omega
 have J : b < w.heap.size:=(yc.1 A).1
 let g' : G:={ g.setTv t k (.slice (some ⟨b,o,none⟩) (xs.length + ys.length) c) with N:=fun b1 a => g.N b1 a ∨ (b1 = b ∧ o + xs.length * sz ≤ a ∧ a < o + (xs.length + ys.length) * sz) }
 have r : ∀ a,g.N b a → (w.setRow b (zcP arr (o + xs.length * sz) vs)).cell? ⟨b,a,none⟩ = w.cell? ⟨b,a,none⟩:=fun a h => by
  rw [zla A,zh1 A,zfr l,if_pos (Z a h)]
 have U:=replace (g':=g') (w':=w.setRow b (zcP arr (o + xs.length * sz) vs)) (new:=.tok sz (fr.set k (xs.length + ys.length))) R m (fun b1 => b1 = b) rfl rfl rfl (by simp)
  (fun b1 p D => ⟨setRow_other w _ _ _ D,rfl,fun a h => h.elim id fun h => absurd h.1 D⟩)
  (fun b1 p => ⟨.inr ⟨k,by rw [p]; exact P⟩,rfl,fun a h => ⟨.inl h,by subst p; exact r a h⟩⟩)
  (fun b1 a _ h => .inl h) (fun _ _ => rfl) (fun j z O => G.setTv_ne g _ (by simp [O])) (fun b1 a h => by
   rw [setRow_size];rcases h with h | h
   ·exact R.nb b1 a h
   ·rw [h.1]; exact J)
  (fun Y aD aA hs => by simp [shapeOf,m,Ob.shape] at hs) (fun es h => by cases h)
  (fun z X h => by
   by_cases e : z = k
   ·subst e
    rw [zdG m L] at h;injection h with h;subst h;refine ⟨_,zi6 m L,by omega,fun e => ?_⟩;have : ys.length = 0:=by omega
    show (g.setTv t z _).tv t z = _
    rw [G.setTv_same,hu,this];rfl
   ·obtain ⟨B,aC,q,Q⟩:=zcR h
    rw [m] at q;injection q with q;injection q with q k1';subst q k1'
    exact ⟨X,zdG (zB m) (by rw [yl (Ne.symm e)]; exact Q),yd _,fun _ => G.setTv_ne g _ (by simp [e])⟩)
  (fun _ _ h => by injection h with h _; exact ⟨_,by rw [h]⟩)
  (fun H => zqE R m (fun z e => G.setTv_ne g _ (by simp [e]))
   (fun b1 z p d C => ⟨setRow_other w _ _ _ (fun e => by subst e; rw [P] at d; injection d with _ d; exact C d.symm),rfl,fun a h => h.elim id fun h => by
    exfalso;rw [h.1,P] at d;injection d with _ d
    exact C d.symm⟩)
   (fun X s => by
    rw [yk] at s;simp [zb L] at s;subst s
    exact .inr ⟨b,o,c,_,ty,G.setTv_same _ _ _ _,by omega,f,P,setRow_heap w _ _ _ _ _ A,by rw [zfl l]; exact h6,fun a h => by
     rcases h with h | h
     ·have:=Z a h
      rw [yr];omega
     ·exact h.2.2⟩))
 obtain ⟨S,U⟩:=U;refine ⟨arr,ty,g',A,l,S,U,?_⟩;simp only [zy]
 have W : zbO sz (xs ++ ys):=zeW fun e he => by
  rcases List.mem_append.1 he with he | he
  ·exact zfs M e he
  ·exact zfs E.2.1 e he
 refine ⟨?_,xs.length + ys.length,zi6 m L,by simp,fun _ => (G.setTv_same _ _ _ _).symm,sz,zb9 (zB m),W⟩;have:=zvO (w:=w.setRow b (zcP arr (o + xs.length * sz) vs)) (N:=g'.N) (b:=b) (o:=o) (c:=c) W (by simpa using f) (zfS fun i e n => ?_)
 ·simpa using this
 ·rw [ym] at n
  by_cases ci : i < xs.length
  ·rw [if_pos ci] at n
   simp only [rep] at V;obtain ⟨a1,c1,B,e1,e2,e3,e4⟩:=V;rcases e4 with e4 | ⟨b1,a,e4,e5⟩
   ·rw [e4] at ci; simp at ci
   ·injection e1 with e1 _ e1c
    rw [e4] at e1;injection e1 with e1;injection e1 with e1a e1b;subst e1a e1b;have I : B = sz:=(by rw [← zbS e3 n,zbS M n]);subst I;exact zff S.keeps _ _ _ (zfk e5 n)
  ·rw [if_neg ci] at n
   refine zij fun j x O => ?_;obtain ⟨u,q,Q,_⟩:=E.2.2 _ e n j x O;have aB:=inside (zb n) (by have:=zb O; have:=zbS E.2.1 n; omega : j < sz)
   have e1 : o + i * sz + j = o + xs.length * sz + ((i - xs.length) * sz + j):=by
    rw [yx];have : xs.length * sz ≤ i * sz:=ya _ (yp ci);omega
   refine ⟨u,.inr ⟨rfl,by omega,by rw [yr]; omega⟩,?_,zcM S.keeps x u Q⟩;rw [zla A,zfr l,if_neg (by omega),if_pos (by rw [E.1]; omega),e1,yg];exact q
theorem drawn (R : Rel g w σ) (m : Nat) : Ext g w σ g (w.drewN m) σ ∧ Rel g (w.drewN m) σ:=by
 have H : Ext g w σ g (w.drewN m) σ:={
  os:=rfl
  tape:=rfl
  output:=rfl
  size:=yd _
  keeps:=fun _ _ h => ⟨h,rfl⟩
  len:=yd _
  shape:=fun id a sz len h => .inl ⟨h,rfl,fun _ arr t b => ⟨arr,b,rfl⟩⟩
  map:=fun id es h => ⟨rfl,es,h⟩
  tok:=fun t k n h => ⟨n,h,yd _,fun _ => rfl⟩
  tsz:=fun _ _ h => h
  ow:=fun _ _ => rfl
  new:=fun _ _ h _ _ => h
  frame:=fun _ _ _ => rfl }
 exact ⟨H,⟨R.nb,fun id o h => zcS H rfl (fun _ => rfl) (fun _ _ _ => ⟨rfl,rfl,fun _ h => h⟩) (R.ob id o h)⟩⟩
theorem zA7 (R : Rel g w σ) {t k sz c : Nat} {e : TypeId} {fr : List Nat} {xs ys : List (List Fz)} {us vs : List Value} {arr : Array Value} (d : σ[t]? = some (.tok sz fr)) (x : fr[k]? = some xs.length)
  (P : Lay w g.N sz xs us) (V : Lay w g.N sz ys vs) (W : 0 < xs.length + ys.length) (I : xs.length + ys.length ≤ c) (a : ∃ rest,arr.toList = us ++ vs ++ rest) (B : arr.size = c * sz) (z : 0 < ys.length) :
  ∃ g',Ext g w σ g' (w.alloc (.cells arr e)) (σ.set t (.tok sz (fr.set k (xs.length + ys.length)))) ∧
    Rel g' (w.alloc (.cells arr e)) (σ.set t (.tok sz (fr.set k (xs.length + ys.length)))) ∧
    zy g' (w.alloc (.cells arr e)) (σ.set t (.tok sz (fr.set k (xs.length + ys.length)))) (.ap t k (xs ++ ys)) (.slice (some ⟨w.heap.size,0,none⟩) (xs.length + ys.length) c):=by
 obtain ⟨rest,a⟩:=a;have f:=P.append V;have s:=zbd w (.cells arr e)
 let g' : G:={ g.setTv t k (.slice (some ⟨w.heap.size,0,none⟩) (xs.length + ys.length) c) with ow:=zxW g.ow w.heap.size (.tk t k),N:=fun b1 n => g.N b1 n ∨ (b1 = w.heap.size ∧ n < (xs.length + ys.length) * sz) }
 have D : ∀ b,b < w.heap.size → g'.ow b = g.ow b:=fun b l => zaH g.ow (k:=w.heap.size) (i:=b) _ (by omega);have q : ∀ b,b < w.heap.size → zs6 g w g' (w.alloc (.cells arr e)) b:=fun b l => ⟨heap_alloc_old w _ l,D b l,fun o h => h.elim id fun h => by omega⟩
 have A:=replace (g':=g') (w':=w.alloc (.cells arr e)) (new:=.tok sz (fr.set k (xs.length + ys.length))) R d (fun _ => False) rfl rfl rfl (by rw [size_alloc]; omega)
  (fun b l _ => q b l) (fun b l => l.elim) (fun b1 n _ h => .inl h) (fun _ _ => rfl) (fun j u r => G.setTv_ne g _ (by simp [r]))
  (fun b1 n h => by
   rw [size_alloc];rcases h with h | h
   ·have:=R.nb b1 n h; omega
   ·omega)
  (fun E O J M => by simp [shapeOf,d,Ob.shape] at M) (fun es h => by cases h)
  (fun u K h => by
   by_cases e : u = k
   ·subst e
    rw [zdG d x] at h;injection h with h;subst h;exact ⟨_,zi6 d x,by omega,fun e => by omega⟩
   ·obtain ⟨Q,U,p,S⟩:=zcR h
    rw [d] at p;injection p with p;injection p with p k1';subst p k1'
    exact ⟨K,zdG (zB d) (by rw [yl (Ne.symm e)]; exact S),yd _,fun _ => G.setTv_ne g _ (by simp [e])⟩)
  (fun _ _ h => by injection h with h _; exact ⟨_,by rw [h]⟩)
  (fun H => zqE R d (fun u e => G.setTv_ne g _ (by simp [e])) (fun b1 u C _ _ => q b1 C)
   (fun K m => by
    rw [yk] at m;simp [zb x] at m;subst m;refine .inr ⟨w.heap.size,0,c,arr,e,G.setTv_same _ _ _ _,by omega,I,zgX _ _ _,s,by rw [B]; omega,fun n h => ?_⟩;rcases h with h | h
    ·exact absurd (R.nb _ _ h) (yy _)
    ·have:=h.2; omega))
 obtain ⟨L,A⟩:=A;refine ⟨g',L,A,?_⟩;simp only [zy];refine ⟨?_,xs.length + ys.length,zi6 d x,by simp,fun _ => (G.setTv_same _ _ _ _).symm,sz,zb9 (zB d),f.2.1⟩;have:=zvO (w:=w.alloc (.cells arr e)) (N:=g'.N) (b:=w.heap.size) (o:=0) (c:=c) f.2.1 (by simpa using I) (zlA f L.keeps fun j v r => ?_)
 ·simpa using this
 ·have y:=zb r
  rw [f.1,yb] at y;refine ⟨.inr ⟨rfl,by omega⟩,?_⟩;rw [yu,zh1 s,← yw,a,yf (zb r)];exact r
theorem zB6 (R : Rel g w σ) {id e sz n c : Nat} {es ys : List (List C)} {vs : List Value} {a : Option Addr} (l : σ[id]? = some (.cells e sz es)) (y : es ≠ []) (hu : zzi w (g.ρ id) sz es.length 0 n (.slice a n c))
  (D : vs.length = ys.length * sz) (L : zca g w σ vs.toArray sz ys) (q : n + ys.length ≤ c) (Z : 0 < n + ys.length) :
  ∃ arr ty,a = some ⟨g.ρ id,0,none⟩ ∧ w.heap[g.ρ id]? = some (.cells arr ty (0,0)) ∧ n * sz + vs.length ≤ arr.size ∧
    Ext g w σ g (w.setRow (g.ρ id) (zcP arr (n * sz) vs)) (σ.set id (.cells (e + 1) sz (es.take n ++ ys))) ∧
    Rel g (w.setRow (g.ρ id) (zcP arr (n * sz) vs)) (σ.set id (.cells (e + 1) sz (es.take n ++ ys))) ∧
    zy g (w.setRow (g.ρ id) (zcP arr (n * sz) vs)) (σ.set id (.cells (e + 1) sz (es.take n ++ ys))) (.own id (e + 1) 0 (n + ys.length)) (.slice a (n + ys.length) c):=by
 obtain ⟨a',c',e1,e2,e3,e4⟩:=hu;injection e1 with e1 _ e1c;subst e1 e1c;have r : es.length ≠ 0:=fun h => y (List.eq_nil_of_length_eq_zero h);obtain ⟨f1,f2,arr,ty,f3,f4⟩:=e4 r;obtain ⟨v,P,f,s,z,W,p⟩:=R.ob id _ l y;rw [z] at f3;injection f3 with f3;injection f3 with f3 f3t;subst f3 f3t;have hm : (n + ys.length) * sz ≤ c * sz:=ya _ q;have d : n * sz + vs.length ≤ f.size:=by rw [D]; rw [yr] at hm; rw [yu] at f4; omega
 have N : g.ρ id < w.heap.size:=(yc.1 z).1
 have E:=replace (g':=g) (w':=w.setRow (g.ρ id) (zcP f (n * sz) vs)) (new:=.cells (e + 1) sz (es.take n ++ ys)) R l (fun b => b = g.ρ id) rfl rfl rfl (by simp)
  (fun b B X => ⟨setRow_other w _ _ _ X,rfl,fun _ h => h⟩)
  (fun b B => ⟨.inl (by rw [B]; exact v),rfl,fun o h => absurd (by rw [B] at h; exact h) (P o)⟩) (fun _ _ _ h => h) (fun _ _ => rfl) (fun _ _ _ => rfl) (fun b o h => by simpa using R.nb b o h)
  (fun M S Q A => by
   rw [zt l] at A;injection A with A;injection A with hs1 hs2;injection hs2 with hs2 hs3
   exact .inr ⟨e + 1,_,by rw [zt (zB l),hs2],by omega⟩)
  (fun es' h => by cases h) (fun k n h => by simp [zmP,l,Ob.fr] at h)
  (fun _ _ h => by cases h) (fun H O => by
   refine ⟨v,P,_,s,setRow_heap w _ _ _ _ _ z,?_,fun i x m => ?_⟩
   ·rw [zfl d,yb,yi,yt (by omega)]
    rw [yu] at f4;omega
   ·rw [ym] at m
    have V : (es.take n).length = n:=(by rw [yi]; omega);rw [V] at m
    by_cases ci : i < n
    ·rw [if_pos ci,List.getElem?_take,if_pos ci] at m
     refine ⟨(p i x m).1,fun j c t => ?_⟩;obtain ⟨u,I,J,K⟩:=(p i x m).2 j c t;have G : j < sz:=(by have:=zb t; have:=(p i x m).1; omega);exact ⟨u,by rw [zfr d,if_pos (inside ci G)]; exact I,H.zy c u J,K⟩
    ·rw [if_neg ci] at m
     refine ⟨(L _ x m).1,fun j c t => ?_⟩;obtain ⟨u,I,J,K⟩:=(L _ x m).2 j c t;have G : j < sz:=(by have:=zb t; have:=(L _ x m).1; omega);have U:=inside (zb m) G
     have e1 : i * sz + j = n * sz + ((i - n) * sz + j):=by
      rw [yx];have : n * sz ≤ i * sz:=ya _ (yp ci);omega
     refine ⟨u,?_,H.zy c u J,K⟩;rw [zfr d,if_neg (by omega),if_pos (by omega),e1,yg]
     simpa using I)
 obtain ⟨Y,E⟩:=E;refine ⟨f,s,by simpa using f2 (by omega),z,d,Y,E,?_⟩;simp only [zy];refine ⟨e + 1,sz,_,zt (zB l),yd _,fun _ => ⟨a,c,rfl,q,fun h => ?_,fun _ => ⟨?_,f2,zcP f (n * sz) vs,s,setRow_heap w _ _ _ _ _ z,?_⟩⟩,_,_,rfl⟩
 ·rw [yb,yi,yt (by omega)] at h
  omega
 ·rw [yb,yi,yt (by omega)]
  omega
 ·rw [zfl d]; exact f4
theorem zA8 (R : Rel g w σ) {id a sz n c : Nat} {e : TypeId} {es ys : List (List C)} {us vs : List Value} {arr : Array Value} (f : σ[id]? = some (.cells a sz es)) (Y : n ≤ es.length)
  (A : us.length = n * sz) (L : zca g w σ us.toArray sz (es.take n)) (U : vs.length = ys.length * sz) (Q : zca g w σ vs.toArray sz ys) (r : n + ys.length ≤ c) (X : 0 < n + ys.length)
  (l : ∃ rest,arr.toList = us ++ vs ++ rest) (t : arr.size = c * sz) :
  ∃ g',Ext g w σ g' (w.alloc (.cells arr e)) (σ.set id (.cells (a + 1) sz (es.take n ++ ys))) ∧
    Rel g' (w.alloc (.cells arr e)) (σ.set id (.cells (a + 1) sz (es.take n ++ ys))) ∧
    zy g' (w.alloc (.cells arr e)) (σ.set id (.cells (a + 1) sz (es.take n ++ ys))) (.own id (a + 1) 0 (n + ys.length)) (.slice (some ⟨w.heap.size,0,none⟩) (n + ys.length) c):=by
 obtain ⟨rest,l⟩:=l;have v:=zbd w (.cells arr e);have z : (es.take n).length = n:=by rw [yi]; omega
 let g' : G:=g.own id w.heap.size
 have K : ∀ b,b < w.heap.size → g'.ow b = g.ow b:=fun b p => zaH g.ow (k:=w.heap.size) (i:=b) _ (by omega);have B : ∀ b,b < w.heap.size → zs6 g w g' (w.alloc (.cells arr e)) b:=fun b p => ⟨heap_alloc_old w _ p,K b p,fun o h => h⟩
 have m : ∀ q u,(us ++ vs)[q]? = some u → arr[q]? = some u:=fun q u h => by
  rw [← yw,l,yf (zb h)];exact h
 have D:=replace (g':=g') (w':=w.alloc (.cells arr e)) (new:=.cells (a + 1) sz (es.take n ++ ys)) R f (fun _ => False) rfl rfl rfl (by rw [size_alloc]; omega)
  (fun b p _ => B b p) (fun b p => p.elim) (fun b1 M _ h => h) (fun j V => zaH g.ρ (k:=id) (i:=j) _ V) (fun _ _ _ => rfl)
  (fun b1 M h => by rw [size_alloc]; have:=R.nb b1 M h; omega)
  (fun N S P y => by
   rw [zt f] at y;injection y with y;injection y with hs1 hs2;injection hs2 with hs2 hs3
   exact .inr ⟨a + 1,_,by rw [zt (zB f),hs2],by omega⟩)
  (fun es' h => by cases h) (fun k n h => by simp [zmP,f,Ob.fr] at h)
  (fun _ _ h => by cases h) (fun H O => by
   refine ⟨by simp [g',G.own],fun o h => absurd (R.nb _ _ (by simpa [g',G.own] using h)) (yy _),arr,e,by simpa [g',G.own] using v,?_,fun i x d => ?_⟩
   ·rw [t,yb,z]
    exact ya _ r
   ·rw [ym,z] at d
    by_cases ci : i < n
    ·rw [if_pos ci] at d
     refine ⟨(L i x d).1,fun j c r => ?_⟩;obtain ⟨u,E,I,J⟩:=(L i x d).2 j c r;refine ⟨u,m _ u ?_,H.zy c u I,J⟩;have s : us[i * sz + j]? = some u:=(by simpa using E);rw [yf (zb s)];exact s
    ·rw [if_neg ci] at d
     refine ⟨(Q _ x d).1,fun j c r => ?_⟩;obtain ⟨u,E,I,J⟩:=(Q _ x d).2 j c r;refine ⟨u,m _ u ?_,H.zy c u I,J⟩
     have e1 : i * sz + j = us.length + ((i - n) * sz + j):=by
      rw [A,yx];have : n * sz ≤ i * sz:=ya _ (yp ci);omega
     rw [e1,List.getElem?_append_right (by omega),yg]
     simpa using E)
 obtain ⟨W,D⟩:=D;refine ⟨g',W,D,?_⟩;simp only [zy];refine ⟨a + 1,sz,_,zt (zB f),yd _,fun _ => ⟨_,c,rfl,r,fun h => ?_,fun _ => ⟨?_,fun _ => by simp [g',G.own],arr,e,by simpa [g',G.own] using v,by rw [t,yu]; exact yd _⟩⟩,_,_,rfl⟩
 ·rw [yb,z] at h
  omega
 ·rw [yb,z]
  omega
theorem map_set (R : Rel g w σ) {id clock clock' : Nat} {es es' : List (Int × V)} {zbn ents' : Array MapEntry} (a : σ[id]? = some (.mp es)) (r : w.heap[g.ρ id]? = some (.map zbn clock))
  (hm : ∀ {g' : G} {w' : World} {σ' : zd},Ext g w σ g' w' σ' → zlB g' w' σ' es' ents'.toList clock') :
  Ext g w σ g { w with heap:=w.heap.setIfInBounds (g.ρ id) (.map ents' clock') } (σ.set id (.mp es')) ∧ Rel g { w with heap:=w.heap.setIfInBounds (g.ρ id) (.map ents' clock') } (σ.set id (.mp es')):=by
 obtain ⟨d,i,_,_,_,_⟩:=R.ob id _ a;have c : g.ρ id < w.heap.size:=(yc.1 r).1
 refine replace (g':=g) R a (fun b => b = g.ρ id) rfl rfl rfl (by simp) (fun b e q => ⟨?_,rfl,fun _ h => h⟩)
  (fun b e => ⟨.inl (by rw [e]; exact d),rfl,fun o h => absurd (by rw [e] at h; exact h) (i o)⟩) (fun _ _ _ h => h) (fun _ _ => rfl) (fun _ _ _ => rfl) (fun b o h => by simpa using R.nb b o h)
  (fun f m j l => by simp [shapeOf,a,Ob.shape] at l) (fun p h => ⟨rfl,es',rfl⟩) (fun k n h => by simp [zmP,a,Ob.fr] at h)
  (fun _ _ h => by cases h) (fun H => ⟨d,i,ents',clock',?_,hm H⟩)
 ·simp only [ye]
  rw [if_neg (Ne.symm q)]
 ·simp only [ye]
  simp [c]
end
def zyR : Value → Value → Bool
 | .bool a,.bool b => a == b
 | .int k a,.int k' b => decide (k = k') && decide (a = b)
 | .string a,.string b => decide (a = b)
 | .pointer none,.pointer none => true
 | .map none,.map none => true
 | .nilFunc,.nilFunc => true
 | .slice none 0 0,.slice none 0 0 => true
 | _,_ => false
theorem ztZ {u v : Value} (h : zyR u v = true) : u = v ∧ zxS v = true:=by
 unfold zyR at h;split at h <;> simp_all [zxS]
def zvu : Value → C → Bool
 | .slice none 0 0,.f (.sl []) => true
 | v,.f (.lit v') => zyR v v'
 | _,_ => false
def zfm : List Value → List C → Bool
 | [],[] => true
 | v :: vs,c :: cs => zvu v c && zfm vs cs
 | _,_ => false
def zph : Value → V → Bool
 | .agg us,.agg cs => zfm us.toList cs
 | v,.one c => zvu v c
 | _,_ => false
section
variable {g : G} {w : World} {σ : zd}
theorem znN {v : Value} {c : C} (h : zvu v c = true) : zy g w σ c v ∧ v.oneCell' = true:=by
 unfold zvu at h;split at h
 ·refine ⟨?_,rfl⟩
  rw [zy,rep];exact ⟨none,0,0,rfl,yd _,by simp only [zbO],.inl rfl⟩
 ·obtain ⟨e,a⟩:=ztZ h
  subst e;refine ⟨by rw [zy,rep]; exact ⟨rfl,a⟩,?_⟩;cases v <;> simp_all [zxS,Value.oneCell']
 ·cases h
theorem zav : ∀ {vs : List Value} {cs : List C},zfm vs cs = true → zv g w σ cs vs ∧ ∀ v ∈ vs,v.oneCell' = true
 | [],[],_ => by simp [zv]
 | v :: vs,c :: cs,h => by
   simp only [zfm,yj] at h;obtain ⟨a,e⟩:=znN (g:=g) (w:=w) (σ:=σ) h.1;obtain ⟨d,b⟩:=zav h.2;refine ⟨by simp only [zv]; exact ⟨v,vs,rfl,a,d⟩,fun u hu => ?_⟩;rcases List.mem_cons.1 hu with rfl | hu
   ·exact e
   ·exact b u hu
 | [],_ :: _,h => by simp [zfm] at h
 | _ :: _,[],h => by simp [zfm] at h
theorem zfD {v : Value} {x : V} (h : zph v x = true) : zf g w σ x v:=by
 unfold zph at h;split at h
 ·rename_i us cs
  simp only [zf];exact ⟨us,rfl,(zav h).1⟩
 ·simp only [zf]
  exact (znN h).1
 ·cases h
end
def okX (κ : List Tmp) (loc : List (Option Tmp)) : Operand → X → Bool
 | .tmp t,.s i => κ[i]? == some t
 | .tmp t,.l d => loc[d]? == some (some t) && (loc.take d).all (· != some t)
 | .const v,.c x => zph v x
 | .func f,.c (.one (.fn f' [] [])) => f == f'
 | _,_ => false
structure Fr (κ : List Tmp) (loc : List (Option Tmp)) (nt : Nat) (g : G) (w : World) (r : R) (a : Act) : Prop where
 size : a.tmps.size = nt
 len : r.env.length = κ.length
 env : ∀ (i : Nat) (t : Tmp),κ[i]? = some t → zf g w r.st (r.env.getD i vun) (a.tmps.getD t undef)
 lc : ∀ (d : Nat) (t : Tmp),loc[d]? = some (some t) → (loc.take d).all (· != some t) = true → zf g w r.st (r.rs.getD d vun) (a.tmps.getD t undef)
 lk : ∀ (d : Nat) (t : Tmp),loc[d]? = some (some t) → t ∉ κ
 nd : κ.Nodup
 bd : ∀ t ∈ κ,t < nt
 df : a.defers = []
section
variable {κ : List Tmp} {loc : List (Option Tmp)} {nt : Nat} {g : G} {w : World} {r : R} {a : Act}
theorem Fr.get (F : Fr κ loc nt g w r a) {x : Operand} {y : X} (h : okX κ loc x y = true) : zf g w r.st (r.get y) (a.eval x):=by
 unfold okX at h;split at h
 ·exact F.env _ _ (by simpa using h)
 ·simp only [yj,beq_iff_eq] at h
  exact F.lc _ _ h.1 h.2
 ·exact zfD h
 ·rename_i f f'
  have e : f = f':=by simpa using h
  subst e;simp only [R.get,Act.eval,zf,zy];exact ⟨_,_,rfl,by simp [zv],by simp [zv]⟩
 ·cases h
theorem Fr.ext {g' : G} {w' : World} {r' : R} (F : Fr κ loc nt g w r a) (H : Ext g w r.st g' w' r'.st) (he : r'.env = r.env) (b : r'.rs = r.rs) : Fr κ loc nt g' w' r' a :=
 ⟨F.size,by rw [he]; exact F.len,fun i t h => by rw [he]; exact H.zf _ _ (F.env i t h),fun d t h c => by rw [b]; exact H.zf _ _ (F.lc d t h c),F.lk,F.nd,F.bd,F.df⟩
def okD (κ : List Tmp) (nt : Nat) : Option Tmp → D → Bool
 | none,.no => true
 | some t,.loc => !κ.contains t && decide (t < nt)
 | some t,.slot i => κ[i]? == some t
 | _,_ => false
def za5 : Option Tmp → D → Option Tmp
 | some t,.loc => some t
 | _,_ => none
theorem zhn {a : Array Value} {t b : Nat} {u : Value} : (a.setIfInBounds t u).getD b undef = if t = b ∧ t < a.size then u else a.getD b undef:=by
 simp only [Array.getD_eq_getD_getElem?,ye]
 by_cases h : t = b
 ·subst h
  by_cases c : t < a.size <;> simp [c]
 ·simp [h]
theorem zhL {α : Type} (x : α) (l : List α) (d : Nat) (z : α) : (x :: l).getD (d + 1) z = l.getD d z:=by simp
theorem Fr.put (F : Fr κ loc nt g w r a) {t : Option Tmp} {d : D} (h : okD κ nt t d = true) {v : V} {u : Value} (s : d ≠ .no → zf g w r.st v u) : Fr κ (za5 t d :: loc) nt g w (r.put d v) (a.put t u):=by
 unfold okD at h;split at h
 ·
  refine ⟨F.size,F.len,F.env,fun c f b k => ?_,fun c f b => ?_,F.nd,F.bd,F.df⟩
  ·cases c with
   | zero => simp [za5] at b
   | succ c =>
     simp only [R.put,zhL];exact F.lc c f (by simpa using b) (by simpa [yh,za5] using k)
  ·cases c with
   | zero => simp [za5] at b
   | succ c => exact F.lk c f (by simpa using b)
 ·
  rename_i t;simp only [yj,Bool.not_eq_true',decide_eq_true_eq] at h;have q : t ∉ κ:=by simpa using h.1
  have n : t < a.tmps.size:=by rw [F.size]; exact h.2
  refine ⟨by simp [Act.put,F.size],F.len,fun i f b => ?_,fun c f b k => ?_,fun c f b => ?_,F.nd,F.bd,F.df⟩
  ·have j : t ≠ f:=fun e => q (by rw [e]; exact yn b)
   simp only [Act.put,zhn,j,false_and,if_false];exact F.env i f b
  ·cases c with
   | zero =>
     simp [za5] at b;subst b;simp only [Act.put,zhn,n,and_self,if_true];exact s (by simp)
   | succ c =>
     have j : t ≠ f:=fun e => by
      subst e;simp [yh,za5] at k
     simp only [Act.put,zhn,j,false_and,if_false,R.put,zhL];refine F.lc c f (by simpa using b) ?_;rw [yh,yz,yj] at k;exact k.2
  ·cases c with
   | zero => simp [za5] at b; subst b; exact q
   | succ c => exact F.lk c f (by simpa using b)
 ·
  rename_i t i;have l : κ[i]? = some t:=by simpa using h
  have n : t < a.tmps.size:=by rw [F.size]; exact F.bd t (yn l)
  have o : i < r.env.length:=by rw [F.len]; exact zb l
  refine ⟨by simp [Act.put,F.size],by simp [R.put,F.len],fun p f b => ?_,fun c f b k => ?_,fun c f b => ?_,F.nd,F.bd,F.df⟩
  ·simp only [Act.put,zhn,R.put,yo,yk]
   by_cases e : t = f
   ·subst e
    have : i = p:=(List.getElem?_inj (zb l) F.nd).1 (l.trans b.symm);subst this;simp only [n,and_self,if_true,o,Option.getD_some];exact s (by simp)
   ·have : i ≠ p:=fun x => e (by subst x; rw [l] at b; injection b)
    simp only [e,false_and,if_false,this];have:=F.env p f b
    rwa [yo] at this
  ·cases c with
   | zero => simp [za5] at b
   | succ c =>
     have m : loc[c]? = some (some f):=(by simpa using b);have j : t ≠ f:=fun e => F.lk c f m (by rw [← e]; exact yn l);simp only [Act.put,zhn,j,false_and,if_false,R.put,zhL];refine F.lc c f m ?_;rw [yh,yz,yj] at k;exact k.2
  ·cases c with
   | zero => simp [za5] at b
   | succ c => exact F.lk c f (by simpa using b)
 ·cases h
end
def zjo (P : Program) (t : TypeId) : Option Nat:=(P.info? t).map (·.size)
def zlD (P : Program) (t : TypeId) : Option Bool:=(P.underlying t).map fun d => match d with
 | .struct _ | .array _ _ => true
 | _ => false
section
variable {P : Program} {κ : List Tmp} {loc : List (Option Tmp)} {nt : Nat} {g : G} {w : World} {r r' : R} {a : Act} {o : Go.Oper} {d : D} {next : Act → World → Prop} {Q : Exit → Act → World → Prop}
theorem zmc {u : Value} {w' : World} (h : (execOp a.eval o).run P w = .ok (.value u) w') (k : next (a.put o.dst u) w') : o.wp P a w next Q:=by
 unfold Oper.wp;rw [h];exact k
theorem zBg {w' : World} (h : (execOp a.eval o).run P w = .ok .skip w') (k : next (a.put o.dst undef) w') : o.wp P a w next Q:=by
 unfold Oper.wp;rw [h];exact k
theorem zeZ (r : R) (d : D) (v : V) : (r.put d v).st = r.st:=by cases d <;> rfl
theorem zM {σ : zd} {v u : Value} (h : zf g w σ (.one (.f (.lit v))) u) : u = v ∧ zxS v = true:=by
 simpa only [zf,zy,rep] using h
theorem zT {σ : zd} {v : Value} (h : zxS v = true) : zf g w σ (.one (.f (.lit v))) v:=by
 rw [zf,zy,rep];exact ⟨rfl,h⟩
theorem zp5 (op : BinOp) (t : TypeId) (x y : Operand) (c : TypeId) (e : o.op = .binOp op t x y c) {k b : IntKind} {m n : Int} (d : a.eval x = .int k m) (f : a.eval y = .int b n) :
  (execOp a.eval o).run P w = ((do let v ← binOp op t (.int k m) (.int b n); pure (Next.value v) : Sem Next)).run P w:=by
 unfold execOp;simp only [e,d,f,eqGuard];cases op <;> simp
theorem zxi {op : BinOp} {t : TypeId} {x y : Operand} {i : TypeId} (q : o.op = .binOp op t x y i) {f j v : V} (l : zf g w r.st f (a.eval x)) (s : zf g w r.st j (a.eval y)) (h : zFm op f j = some v) :
  ∃ u,(execOp a.eval o).run P w = .ok (.value u) w ∧ zf g w r.st v u:=by
 unfold zFm at h;split at h
 ·rename_i k m z n
  obtain ⟨ex,_⟩:=zM l;obtain ⟨ey,_⟩:=zM s;rw [zp5 op t x y i q ex ey];split at h
  ·rename_i c
   unfold zAx at h;split at h
   ·rename_i b
    have d : ¬ n < 0:=by omega
    cases op <;> simp [zsf] at c <;> simp only [Option.some.injEq] at h <;> subst h <;>
     exact ⟨_,by simp [binOp,Op.shift,d],zT rfl⟩
   ·cases h
  ·rename_i c
   split at h
   ·rename_i p
    subst p;unfold zGb at h;cases op <;> simp [zsf] at c <;> simp only at h
    case quo =>
     split at h
     ·cases h
     ·rename_i b
      injection h with h;subst h;exact ⟨_,by simp [binOp,Op.intDiv,b],zT rfl⟩
    case rem =>
     split at h
     ·cases h
     ·rename_i b
      injection h with h;subst h;exact ⟨_,by simp [binOp,Op.intDiv,b],zT rfl⟩
    case andNot => cases h
    all_goals
     injection h with h;subst h;refine ⟨_,?_,zT rfl⟩;simp [binOp,Op.intArith,Op.intBits,Op.intCmp]
    all_goals (by_cases e : m = n <;> simp [e])
   ·cases h
 ·cases h
theorem zrE {x : Operand} (b : o.op = .move x ∨ o.op = .assign x) : (execOp a.eval o).run P w = .ok (.value (a.eval x)) w:=by
 unfold execOp;rcases b with b | b <;> simp [b]
theorem zxH {c x y : Operand} (j : o.op = .pick c x y) {d b e v : V} (f : zf g w r.st d (a.eval c)) (i : zf g w r.st b (a.eval x)) (k : zf g w r.st e (a.eval y)) (h : zB3 b e d = some v) :
  ∃ u,(execOp a.eval o).run P w = .ok (.value u) w ∧ zf g w r.st v u:=by
 unfold zB3 at h;split at h
 ·rename_i t
  obtain ⟨ec,_⟩:=zM f;injection h with h;subst h;refine ⟨if t then a.eval x else a.eval y,?_,?_⟩
  ·unfold execOp
   simp [j,ec,asBool]
  ·cases t
   ·simpa using k
   ·simpa using i
 ·cases h
theorem zxY {op : UnOp} {t : TypeId} {x : Operand} (d : o.op = .unOp op t x) {b v : V} (c : zf g w r.st b (a.eval x)) (h : aun op b = some v) :
  ∃ u,(execOp a.eval o).run P w = .ok (.value u) w ∧ zf g w r.st v u:=by
 unfold aun at h;split at h
 ·obtain ⟨ex,_⟩:=zM c
  injection h with h;subst h;exact ⟨_,by unfold execOp; simp [d,ex,Op.unary],zT rfl⟩
 ·obtain ⟨ex,_⟩:=zM c
  injection h with h;subst h;exact ⟨_,by unfold execOp; simp [d,ex,Op.unary,Op.intArith],zT rfl⟩
 ·cases h
theorem zwN {k : IntKind} {s t : TypeId} {x : Operand} (e : o.op = .convert s t x) (b : (P.underlying s).isSome = true) (f : P.underlying t = some (.int k)) {c v : V} (d : zf g w r.st c (a.eval x)) (h : zBE k c = some v) :
  ∃ u,(execOp a.eval o).run P w = .ok (.value u) w ∧ zf g w r.st v u:=by
 unfold zBE at h;split at h
 ·obtain ⟨ex,_⟩:=zM d
  injection h with h;subst h;obtain ⟨ds,b⟩:=Option.isSome_iff_exists.1 b;exact ⟨_,by unfold execOp; simp [e,ex,convert,run_underlying b,run_underlying f,Conv.intToInt],zT rfl⟩
 ·cases h
theorem zrH {σ : zd} {xs : List (List Fz)} {u : Value} (h : zf g w σ (.one (.f (.sl xs))) u) : rep w g.N (.sl xs) u:=by simpa only [zf,zy] using h
theorem zsv {σ : zd} {t k : Nat} {xs : List (List Fz)} {u : Value} (h : zf g w σ (.one (.ap t k xs)) u) : rep w g.N (.sl xs) u:=by
 simp only [zf,zy] at h;exact h.1
theorem zj4 {N : zgd} {xs : List (List Fz)} {u : Value} (h : rep w N (.sl xs) u) : ∃ a c,u = .slice a xs.length c ∧ xs.length ≤ c:=by
 simp only [rep] at h;obtain ⟨a,c,_,e,b,_⟩:=h;exact ⟨a,c,e,b⟩
theorem zgJ {σ : zd} {id b lo n : Nat} {u : Value} (h : zf g w σ (.one (.own id b lo n)) u) {sz : Nat} {es : List (List C)} (d : σ[id]? = some (.cells b sz es)) : zzi w (g.ρ id) sz es.length lo n u:=by
 simp only [zf,zy] at h;obtain ⟨v0,e,len,a,_,c,_⟩:=h;rw [zt d] at a;injection a with a;injection a with e1 a;injection a with e2 e3;subst e1 e2 e3;exact c rfl
theorem zxb {σ : zd} {v : V} {u : Value} {n : V} (h : zf g w σ v u) (a : zED v = some n) : ∃ b k c,u = .slice b k c ∧ n = zCy .i64 k:=by
 unfold zED at a;split at a
 ·simp only [zf,zy] at h
  obtain ⟨_,_,_,_,_,_,b,c,e⟩:=h;injection a with a;exact ⟨b,_,c,e,a.symm⟩
 ·obtain ⟨b,d,e,_⟩:=zj4 (zrH h)
  injection a with a;exact ⟨b,_,d,e,a.symm⟩
 ·obtain ⟨b,d,e,_⟩:=zj4 (zsv h)
  injection a with a;exact ⟨b,_,d,e,a.symm⟩
 ·cases a
theorem zy9 {t : TypeId} {x : Operand} {c : Go.Call} (m : o.op = .call c) (l : c.callee = .builtin .len) (d : c.args = #[x]) (f : c.argTypes = #[t]) {e : TypeId} (n : P.underlying t = some (.slice e))
  {i v : V} (j : zf g w r.st i (a.eval x)) (h : zED i = some v) :
  ∃ u,(execOp a.eval o).run P w = .ok (.value u) w ∧ zf g w r.st v u:=by
 obtain ⟨b,k,p,e,rfl⟩:=zxb j h;refine ⟨.int .i64 k,?_,zT rfl⟩;unfold execOp;simp [m,resolve,l,d,f,e,invoke,builtin,Builtin.len_,run_underlying n,goInt]
theorem zuH {t : TypeId} {d : Array Field} {i : Nat} {f : Field} {ad : Addr} {n : Nat} (h : P.underlying t = some (.struct d)) (e : d[i]? = some f) (a : zjo P f.type = some n) (g : n ≠ 0) :
  (Instr.fieldAt t (.pointer (some ad)) i).run P w = .ok (.pointer (some (ad.add f.offset))) w:=by
 unfold zjo at a
 cases c : P.info? f.type with
 | none => simp [c] at a
 | some inf =>
   have b : inf.size = n:=(by simpa [c] using a);simp [Instr.fieldAt,run_underlying h,e,Instr.sureAddr,fieldPlace,sizeOf,typeInfo,c,b,g]
theorem zaG (b o j : Nat) : (⟨b,o,none⟩ : Addr).add j = ⟨b,o + j,none⟩:=by unfold Addr.add; split <;> simp_all
theorem zBs {t : TypeId} {x : Operand} {i n off : Nat} {p : Array Field} {f : Field} (z : o.op = .fieldAddr t x i) (C : P.underlying t = some (.struct p)) (y : p[i]? = some f) (s : zjo P f.type = some n) (E : n ≠ 0) (c : f.offset = off)
  {m v : V} (d : zf g w r.st m (a.eval x)) (h : afa off m = some v) :
  ∃ u,(execOp a.eval o).run P w = .ok (.value u) w ∧ zf g w r.st v u:=by
 have key : ∀ ad,a.eval x = .pointer (some ad) → (execOp a.eval o).run P w = .ok (.value (.pointer (some (ad.add off)))) w:=fun ad e => by
  unfold execOp;simp only [z,e];simp [zuH (w:=w) (ad:=ad) C y s E,c]
 unfold afa at h;split at h
 ·rename_i id D j A
  injection h with h;subst h;simp only [zf,zy] at d;obtain ⟨v0,sz,len,l,k,B,ad,q⟩:=d;refine ⟨_,key ad q,?_⟩;simp only [zf,zy];refine ⟨v0,sz,len,l,k,fun e => ?_,_,rfl⟩;have:=B e;rw [q] at this;injection this with this;injection this with this;rw [this,zaG,yq]
 ·rename_i cs A
  injection h with h;subst h;simp only [zf,zy] at d;obtain ⟨b,G,l,k⟩:=d;refine ⟨_,key _ l,?_⟩;simp only [zf,zy];exact ⟨b,G,by rw [zaG,yq],k⟩
 ·cases h
theorem zpV {t e : TypeId} {k : IntKind} {n : Int} {ad : Addr} {len cap sz : Nat} (f : P.underlying t = some (.slice e)) (a : zjo P e = some sz) (g : 0 ≤ n) (d : n < len) :
  (Instr.indexAt t (.slice (some ad) len cap) (.int k n)).run P w = .ok (.pointer (some (ad.add (n.toNat * sz)))) w:=by
 unfold zjo at a
 cases c : P.info? e with
 | none => simp [c] at a
 | some inf =>
   have b : inf.size = sz:=(by simpa [c] using a);simp [Instr.indexAt,asIntOf,run_underlying f,g,d,sizeOf,typeInfo,c,b]
theorem zqg {t e : TypeId} {k : IntKind} {n : Int} {ad : Addr} {len sz : Nat} (f : P.underlying t = some (.array len e)) (a : zjo P e = some sz) (g : 0 ≤ n) (d : n < len) :
  (Instr.indexAt t (.pointer (some ad)) (.int k n)).run P w = .ok (.pointer (some (ad.add (n.toNat * sz)))) w:=by
 unfold zjo at a
 cases c : P.info? e with
 | none => simp [c] at a
 | some inf =>
   have b : inf.size = sz:=(by simpa [c] using a);simp [Instr.indexAt,asIntOf,run_underlying f,g,d,sizeOf,typeInfo,c,b,Instr.sureAddr]
theorem zkp {a sz : Nat} {b : Ob} (h : b.isRow a sz = true) : ∃ es,b = .cells a sz es:=by
 unfold Ob.isRow at h;split at h
 ·simp at h
  obtain ⟨rfl,rfl⟩:=h;exact ⟨_,rfl⟩
 ·cases h
theorem zsT {t e : TypeId} {x i : Operand} {sz : Nat} (B : o.op = .indexAddr t x i) (C : P.underlying t = some (.slice e)) (s : zjo P e = some sz) {xs : List (List Fz)} {k : IntKind} {n : Int} (q : rep w g.N (.sl xs) (a.eval x)) (A : a.eval i = .int k n)
  {v : V} (z : 0 ≤ n) (h : (xs[n.toNat]?).bind (zEX sz) = some v) : ∃ u,(execOp a.eval o).run P w = .ok (.value u) w ∧ zf g w r.st v u:=by
 rw [yv] at h;obtain ⟨el,j,f⟩:=h;unfold zEX at f;split at f
 ·rename_i l
  injection f with f;subst f;simp only [rep] at q;obtain ⟨ad,c,d,e1,e2,e3,e4⟩:=q;rcases e4 with rfl | ⟨b,p,rfl,e4⟩
  ·simp at j
  ·have y:=zb j
   have m : d = sz:=(by rw [← zbS e3 j,l]);subst m;refine ⟨.pointer (some ⟨b,p + n.toNat * d,none⟩),?_,?_⟩
   ·unfold execOp
    simp only [B,e1,A];simp [zpV (w:=w) (ad:=⟨b,p,none⟩) (cap:=c) C s z (by omega : n < (xs.length : Int)),zaG]
   ·simp only [vfp,zf,zy]
    exact ⟨b,p + n.toNat * d,rfl,zfk e4 j⟩
 ·cases f
theorem zAW {t e : TypeId} {x i : Operand} {sz : Nat} (q : o.op = .indexAddr t x i) (s : P.underlying t = some (.slice e)) (j : zjo P e = some sz)
  {A C v : V} (l : zf g w r.st A (a.eval x)) (p : zf g w r.st C (a.eval i)) (h : aia r.st sz A C = some v) :
  ∃ u,(execOp a.eval o).run P w = .ok (.value u) w ∧ zf g w r.st v u:=by
 unfold aia at h;split at h
 ·rename_i id y lo n k m
  obtain ⟨ei,_⟩:=zM p;split at h
  ·rename_i hm
   rw [yv] at h;obtain ⟨D,B,b⟩:=h;unfold zue at b;split at b
   ·rename_i d
    injection b with b;subst b;obtain ⟨es,rfl⟩:=zkp d;obtain ⟨ad,c,e1,e2,e3,e4⟩:=zgJ l B;have z : es.length ≠ 0:=fun f => by have:=e3 f; omega
    obtain ⟨f1,f2,_⟩:=e4 z;have f3:=f2 (by omega);subst f3;refine ⟨.pointer (some ⟨g.ρ id,lo * sz + m.toNat * sz,none⟩),?_,?_⟩
    ·unfold execOp
     simp only [q,e1,ei];simp [zpV (w:=w) (ad:=⟨g.ρ id,lo * sz,none⟩) (cap:=c) s j hm.1 hm.2,zaG]
    ·simp only [zf,zy]
     exact ⟨y,sz,es.length,zt B,yd _,fun _ => by rw [yr,Nat.add_zero],_,rfl⟩
   ·cases b
  ·cases h
 ·obtain ⟨ei,_⟩:=zM p
  split at h
  ·rename_i f
   exact zsT q s j (zrH l) ei f h
  ·cases h
 ·obtain ⟨ei,_⟩:=zM p
  split at h
  ·rename_i f
   exact zsT q s j (zsv l) ei f h
  ·cases h
 ·cases h
theorem zyA {t e : TypeId} {x i : Operand} {len sz : Nat} (z : o.op = .indexAddr t x i) (B : P.underlying t = some (.array len e)) (y : zjo P e = some sz)
  {n s v : V} (d : zf g w r.st n (a.eval x)) (p : zf g w r.st s (a.eval i)) (h : zFr len sz n s = some v) :
  ∃ u,(execOp a.eval o).run P w = .ok (.value u) w ∧ zf g w r.st v u:=by
 have key : ∀ ad k m,a.eval x = .pointer (some ad) → a.eval i = .int k m → 0 ≤ m ∧ m < len → (execOp a.eval o).run P w = .ok (.value (.pointer (some (ad.add (m.toNat * sz))))) w:=fun ad k m e C hm => by
  unfold execOp;simp only [z,e,C];simp [zqg (w:=w) (ad:=ad) B y hm.1 hm.2]
 unfold zFr at h;split at h
 ·obtain ⟨ei,_⟩:=zM p
  split at h
  ·rename_i hm
   injection h with h;subst h;simp only [zf,zy] at d;obtain ⟨v0,l,c,j,f,A,ad,q⟩:=d;refine ⟨_,key ad _ _ q ei hm,?_⟩;simp only [zf,zy];refine ⟨v0,l,c,j,f,fun e => ?_,_,rfl⟩;have:=A e;rw [q] at this;injection this with this;injection this with this;rw [this,zaG,yq]
  ·cases h
 ·obtain ⟨ei,_⟩:=zM p
  split at h
  ·rename_i hm
   injection h with h;subst h;simp only [zf,zy] at d;obtain ⟨b,D,j,f⟩:=d;refine ⟨_,key _ _ _ j ei hm,?_⟩;simp only [zf,zy];exact ⟨b,D,by rw [zaG,yq],f⟩
  ·cases h
 ·cases h
end
end Go.A

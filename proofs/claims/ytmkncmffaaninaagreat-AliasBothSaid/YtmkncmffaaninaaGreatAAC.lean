/- A part of the proof of AliasBoth. Conditions: none. -/
import Derived.Test.YtmkncmffaaninaaGreatAAB
import Derived.Orders
import Derived.Laws.Entries
import Derived.Laws.Small
import Derived.ChangeKeysEq
set_option linter.all false
open Nat renaming mul_le_mul_right → ya,le_refl → yd,add_sub_cancel_left → yg,le_of_not_lt → yp,add_assoc → yq,add_mul → yr,min_eq_left → yt,zero_add → yu,sub_mul → yx,lt_irrefl → yy
open List renaming length_append → yb,getElem?_append_left → yf,take_succ_cons → yh,length_take → yi,getElem?_set → yk,getElem?_set_ne → yl,getElem?_append → ym,mem_of_getElem? → yn,getD_eq_getElem?_getD → yo,all_cons → yz
open Array renaming getElem?_eq_some_iff → yc,getElem?_setIfInBounds → ye,getElem?_toList → yw
open Bool renaming and_eq_true → yj
open Option renaming bind_eq_some_iff → yv
namespace Go.A
section
variable {g : G} {w : World} {σ : zb}
theorem ziP {w : World} {b i : Nat} {arr a : Array Value} {t : TypeId} (h : w.heap[b]? = some (.cells arr t (0,0))) : (w.setRow b a).cell? ⟨b,i,none⟩ = a[i]?:=cell_setRow_same w b i arr a t (0,0) h
theorem zfQ {w : World} {b i : Nat} {arr : Array Value} {t : TypeId} {fr : Nat × Nat} (h : w.heap[b]? = some (.cells arr t fr)) : w.cell? ⟨b,i,none⟩ = arr[i]?:=by simp [World.cell?,h]
theorem zoZ {g' : G} {w' : World} {t k n sz : Nat} {fr : List Nat} (R : Rel g w σ) (y : σ[t]? = some (.tok sz fr)) (d : ∀ k',k' ≠ k → g'.tv t k' = g.tv t k') (i : ∀ b k',b < w.heap.size → g.ow b = .tk t k' → k' ≠ k → zrh g w g' w' b)
  (x : ∀ n',(fr.set k n)[k]? = some n' → (n' = 0 ∧ ∃ a,g'.tv t k = .slice a 0 0) ∨
   ∃ b o c arr ty,g'.tv t k = .slice (some ⟨b,o,none⟩) n' c ∧ 0 < c ∧ n' ≤ c ∧ g'.ow b = .tk t k ∧ w'.heap[b]? = some (.cells arr ty (0,0)) ∧ o + c * sz ≤ arr.size ∧ ∀ o',g'.N b o' → o' < o + n' * sz) : zyl g' w' (σ.set t (.tok sz (fr.set k n))) t (.tok sz (fr.set k n)):=by
 intro k' n' h
 by_cases e : k' = k
 ·subst e; exact x n' h
 ·rw [yl (Ne.symm e)] at h
  rw [d k' e];rcases R.ob t _ y k' n' h with h | ⟨b,o,c,arr,ty,s,m,p,l,j,z,r⟩
  ·exact .inl h
  ·obtain ⟨v,u,q⟩:=i b k' (yc.1 j).1 l e
   exact .inr ⟨b,o,c,arr,ty,s,m,p,u.trans l,v.trans j,z,fun o' f => r o' (q o' f)⟩
theorem zgr {t k n a sz : Nat} {fr : List Nat} (c : σ[t]? = some (.tok sz fr)) (b : fr[k]? = some n) : zkF (σ.set t (.tok sz (fr.set k a))) t k = some a:=by
 refine zct (zn c) ?_;rw [yk];simp [za b]
theorem zy0 (R : Rel g w σ) {t k sz b o c : Nat} {fr : List Nat} {xs ys : List (List Fz)} {vs : List Value} (m : σ[t]? = some (.tok sz fr)) (L : fr[k]? = some xs.length) (hu : g.tv t k = .slice (some ⟨b,o,none⟩) xs.length c)
  (aE : 0 < xs.length + ys.length) (X : rep w g.N (.sl xs) (.slice (some ⟨b,o,none⟩) xs.length c)) (M : zbr sz xs) (I : Lay w g.N sz ys vs) (f : xs.length + ys.length ≤ c) :
  ∃ arr ty g',w.heap[b]? = some (.cells arr ty (0,0)) ∧ o + xs.length * sz + vs.length ≤ arr.size ∧
    Ext g w σ g' (w.setRow b (zbs arr (o + xs.length * sz) vs)) (σ.set t (.tok sz (fr.set k (xs.length + ys.length)))) ∧
    Rel g' (w.setRow b (zbs arr (o + xs.length * sz) vs)) (σ.set t (.tok sz (fr.set k (xs.length + ys.length)))) ∧
    zq g' (w.setRow b (zbs arr (o + xs.length * sz) vs)) (σ.set t (.tok sz (fr.set k (xs.length + ys.length)))) (.ap t k (xs ++ ys)) (.slice (some ⟨b,o,none⟩) (xs.length + ys.length) c):=by
 have J:=R.ob t _ m k _ L;rcases J with ⟨h0,a0,s⟩ | ⟨b',o',c',arr,ty,z,_,h3,S,A,h6,Z⟩
 ·rw [hu] at s
  injection s with _ _ s;omega
 rw [hu] at z;injection z with z _ h1c;injection z with z;injection z with h1a h1b;subst h1a h1b h1c;have hm : (xs.length + ys.length) * sz ≤ c * sz:=ya _ f;rw [yr] at hm;have l : o + xs.length * sz + vs.length ≤ arr.size:=by rw [I.1]; omega
 have K : b < w.heap.size:=(yc.1 A).1
 let g' : G:={ g.setTv t k (.slice (some ⟨b,o,none⟩) (xs.length + ys.length) c) with N:=fun b1 a => g.N b1 a ∨ (b1 = b ∧ o + xs.length * sz ≤ a ∧ a < o + (xs.length + ys.length) * sz) }
 have y : ∀ a,g.N b a → (w.setRow b (zbs arr (o + xs.length * sz) vs)).cell? ⟨b,a,none⟩ = w.cell? ⟨b,a,none⟩:=fun a h => by
  rw [ziP A,zfQ A,zdb l,if_pos (Z a h)]
 have W:=replace (g':=g') (w':=w.setRow b (zbs arr (o + xs.length * sz) vs)) (new:=.tok sz (fr.set k (xs.length + ys.length))) R m (fun b1 => b1 = b) rfl rfl rfl (by simp)
  (fun b1 p E => ⟨setRow_other w _ _ _ E,rfl,fun a h => h.elim id fun h => absurd h.1 E⟩)
  (fun b1 p => ⟨.inr ⟨k,by rw [p]; exact S⟩,rfl,fun a h => ⟨.inl h,by subst p; exact y a h⟩⟩)
  (fun b1 a _ h => .inl h) (fun _ _ => rfl) (fun j B Q => G.setTv_ne g _ (by simp [Q])) (fun b1 a h => by
   rw [setRow_size];rcases h with h | h
   ·exact R.nb b1 a h
   ·rw [h.1]; exact K)
  (fun aA aB Y hs => by simp [shapeOf,m,Ob.shape] at hs) (fun es h => by cases h)
  (fun B n' h => by
   by_cases e : B = k
   ·subst e
    rw [zct m L] at h;injection h with h;subst h;refine ⟨_,zgr m L,by omega,fun e => ?_⟩;have : ys.length = 0:=by omega
    show (g.setTv t B _).tv t B = _
    rw [G.setTv_same,hu,this];rfl
   ·obtain ⟨P,aD,q,V⟩:=zb7 h
    rw [m] at q;injection q with q;injection q with q k1';subst q k1'
    exact ⟨n',zct (zn m) (by rw [yl (Ne.symm e)]; exact V),yd _,fun _ => G.setTv_ne g _ (by simp [e])⟩)
  (fun _ _ h => by injection h with h _; exact ⟨_,by rw [h]⟩)
  (fun H => zoZ R m (fun B e => G.setTv_ne g _ (by simp [e]))
   (fun b1 B p d C => ⟨setRow_other w _ _ _ (fun e => by subst e; rw [S] at d; injection d with _ d; exact C d.symm),rfl,fun a h => h.elim id fun h => by
    exfalso;rw [h.1,S] at d;injection d with _ d
    exact C d.symm⟩)
   (fun n' v => by
    rw [yk] at v;simp [za L] at v;subst v
    exact .inr ⟨b,o,c,_,ty,G.setTv_same _ _ _ _,by omega,f,S,setRow_heap w _ _ _ _ _ A,by rw [zc4 l]; exact h6,fun a h => by
     rcases h with h | h
     ·have:=Z a h
      rw [yr];omega
     ·exact h.2.2⟩))
 obtain ⟨U,W⟩:=W;refine ⟨arr,ty,g',A,l,U,W,?_⟩;simp only [zq]
 have hl : zbr sz (xs ++ ys):=zcT fun e he => by
  rcases List.mem_append.1 he with he | he
  ·exact zdd M e he
  ·exact zdd I.2.1 e he
 refine ⟨?_,xs.length + ys.length,zgr m L,by simp,fun _ => (G.setTv_same _ _ _ _).symm,sz,zbC (zn m),hl⟩;have:=zua (w:=w.setRow b (zbs arr (o + xs.length * sz) vs)) (N:=g'.N) (b:=b) (o:=o) (c:=c) hl (by simpa using f) (zdI fun i e n => ?_)
 ·simpa using this
 ·rw [ym] at n
  by_cases ci : i < xs.length
  ·rw [if_pos ci] at n
   simp only [rep] at X;obtain ⟨a1,c1,P,r,e2,e3,O⟩:=X;rcases O with O | ⟨b1,a,O,e5⟩
   ·rw [O] at ci; simp at ci
   ·injection r with r _ e1c
    rw [O] at r;injection r with r;injection r with e1a e1b;subst e1a e1b;have D : P = sz:=(by rw [← zba e3 n,zba M n]);subst D;exact zc8 U.keeps _ _ _ (zda e5 n)
  ·rw [if_neg ci] at n
   refine zf4 fun j x Q => ?_;obtain ⟨u,q,V,_⟩:=I.2.2 _ e n j x Q;have aC:=inside (za n) (by have:=za Q; have:=zba I.2.1 n; omega : j < sz)
   have r : o + i * sz + j = o + xs.length * sz + ((i - xs.length) * sz + j):=by
    rw [yx];have : xs.length * sz ≤ i * sz:=ya _ (yp ci);omega
   refine ⟨u,.inr ⟨rfl,by omega,by rw [yr]; omega⟩,?_,zbD U.keeps x u V⟩;rw [ziP A,zdb l,if_neg (by omega),if_pos (by rw [I.1]; omega),r,yg];exact q
theorem drawn (R : Rel g w σ) (m : Nat) : Ext g w σ g (w.drewN m) σ ∧ Rel g (w.drewN m) σ:=by
 have H : Ext g w σ g (w.drewN m) σ:={
  os:=rfl
  tape:=rfl
  output:=rfl
  size:=yd _
  keeps:=fun _ _ h => ⟨h,rfl⟩
  len:=yd _
  shape:=fun id b sz len h => .inl ⟨h,rfl,fun _ arr t a => ⟨arr,a,rfl⟩⟩
  map:=fun id es h => ⟨rfl,es,h⟩
  tok:=fun t k n h => ⟨n,h,yd _,fun _ => rfl⟩
  tsz:=fun _ _ h => h
  ow:=fun _ _ => rfl
  new:=fun _ _ h _ _ => h
  frame:=fun _ _ _ => rfl }
 exact ⟨H,⟨R.nb,fun id o h => zbi H rfl (fun _ => rfl) (fun _ _ _ => ⟨rfl,rfl,fun _ h => h⟩) (R.ob id o h)⟩⟩
theorem zzZ (R : Rel g w σ) {t k sz c : Nat} {e : TypeId} {fr : List Nat} {xs ys : List (List Fz)} {us vs : List Value} {arr : Array Value} (f : σ[t]? = some (.tok sz fr)) (u : fr[k]? = some xs.length)
  (P : Lay w g.N sz xs us) (O : Lay w g.N sz ys vs) (W : 0 < xs.length + ys.length) (E : xs.length + ys.length ≤ c) (a : ∃ rest,arr.toList = us ++ vs ++ rest) (A : arr.size = c * sz) (y : 0 < ys.length) :
  ∃ g',Ext g w σ g' (w.alloc (.cells arr e)) (σ.set t (.tok sz (fr.set k (xs.length + ys.length)))) ∧
    Rel g' (w.alloc (.cells arr e)) (σ.set t (.tok sz (fr.set k (xs.length + ys.length)))) ∧
    zq g' (w.alloc (.cells arr e)) (σ.set t (.tok sz (fr.set k (xs.length + ys.length)))) (.ap t k (xs ++ ys)) (.slice (some ⟨w.heap.size,0,none⟩) (xs.length + ys.length) c):=by
 obtain ⟨rest,a⟩:=a;have d:=P.append O;have s:=z7 w (.cells arr e)
 let g' : G:={ g.setTv t k (.slice (some ⟨w.heap.size,0,none⟩) (xs.length + ys.length) c) with ow:=zr1 g.ow w.heap.size (.tk t k),N:=fun b1 n => g.N b1 n ∨ (b1 = w.heap.size ∧ n < (xs.length + ys.length) * sz) }
 have D : ∀ b,b < w.heap.size → g'.ow b = g.ow b:=fun b m => zP g.ow (k:=w.heap.size) (i:=b) _ (by omega);have q : ∀ b,b < w.heap.size → zrh g w g' (w.alloc (.cells arr e)) b:=fun b m => ⟨heap_alloc_old w _ m,D b m,fun o h => h.elim id fun h => by omega⟩
 have C:=replace (g':=g') (w':=w.alloc (.cells arr e)) (new:=.tok sz (fr.set k (xs.length + ys.length))) R f (fun _ => False) rfl rfl rfl (by rw [size_alloc]; omega)
  (fun b m _ => q b m) (fun b m => m.elim) (fun b1 n _ h => .inl h) (fun _ _ => rfl) (fun j x r => G.setTv_ne g _ (by simp [r]))
  (fun b1 n h => by
   rw [size_alloc];rcases h with h | h
   ·have:=R.nb b1 n h; omega
   ·omega)
  (fun K M I Q => by simp [shapeOf,f,Ob.shape] at Q) (fun es h => by cases h)
  (fun x J h => by
   by_cases e : x = k
   ·subst e
    rw [zct f u] at h;injection h with h;subst h;exact ⟨_,zgr f u,by omega,fun e => by omega⟩
   ·obtain ⟨U,V,p,S⟩:=zb7 h
    rw [f] at p;injection p with p;injection p with p k1';subst p k1'
    exact ⟨J,zct (zn f) (by rw [yl (Ne.symm e)]; exact S),yd _,fun _ => G.setTv_ne g _ (by simp [e])⟩)
  (fun _ _ h => by injection h with h _; exact ⟨_,by rw [h]⟩)
  (fun H => zoZ R f (fun x e => G.setTv_ne g _ (by simp [e])) (fun b1 x B _ _ => q b1 B)
   (fun J l => by
    rw [yk] at l;simp [za u] at l;subst l;refine .inr ⟨w.heap.size,0,c,arr,e,G.setTv_same _ _ _ _,by omega,E,zcv _ _ _,s,by rw [A]; omega,fun n h => ?_⟩;rcases h with h | h
    ·exact absurd (R.nb _ _ h) (yy _)
    ·have:=h.2; omega))
 obtain ⟨L,C⟩:=C;refine ⟨g',L,C,?_⟩;simp only [zq];refine ⟨?_,xs.length + ys.length,zgr f u,by simp,fun _ => (G.setTv_same _ _ _ _).symm,sz,zbC (zn f),d.2.1⟩;have:=zua (w:=w.alloc (.cells arr e)) (N:=g'.N) (b:=w.heap.size) (o:=0) (c:=c) d.2.1 (by simpa using E) (zjw d L.keeps fun j v r => ?_)
 ·simpa using this
 ·have z:=za r
  rw [d.1,yb] at z;refine ⟨.inr ⟨rfl,by omega⟩,?_⟩;rw [yu,zfQ s,← yw,a,yf (za r)];exact r
theorem zy2 (R : Rel g w σ) {id e sz n c : Nat} {es ys : List (List C)} {vs : List Value} {a : Option Addr} (l : σ[id]? = some (.cells e sz es)) (t : es ≠ []) (hu : zya w (g.ρ id) sz es.length 0 n (.slice a n c))
  (I : vs.length = ys.length * sz) (D : zb9 g w σ vs.toArray sz ys) (m : n + ys.length ≤ c) (h0 : 0 < n + ys.length) :
  ∃ arr ty,a = some ⟨g.ρ id,0,none⟩ ∧ w.heap[g.ρ id]? = some (.cells arr ty (0,0)) ∧ n * sz + vs.length ≤ arr.size ∧
    Ext g w σ g (w.setRow (g.ρ id) (zbs arr (n * sz) vs)) (σ.set id (.cells (e + 1) sz (es.take n ++ ys))) ∧
    Rel g (w.setRow (g.ρ id) (zbs arr (n * sz) vs)) (σ.set id (.cells (e + 1) sz (es.take n ++ ys))) ∧
    zq g (w.setRow (g.ρ id) (zbs arr (n * sz) vs)) (σ.set id (.cells (e + 1) sz (es.take n ++ ys))) (.own id (e + 1) 0 (n + ys.length)) (.slice a (n + ys.length) c):=by
 obtain ⟨a',c',y,e2,e3,Y⟩:=hu;injection y with y _ e1c;subst y e1c;have s : es.length ≠ 0:=fun h => t (List.eq_nil_of_length_eq_zero h);obtain ⟨f1,f2,arr,ty,f3,f4⟩:=Y s;obtain ⟨A,O,f,r,z,W,p⟩:=R.ob id _ l t;rw [z] at f3;injection f3 with f3;injection f3 with f3 f3t;subst f3 f3t;have hm : (n + ys.length) * sz ≤ c * sz:=ya _ m;have d : n * sz + vs.length ≤ f.size:=by rw [I]; rw [yr] at hm; rw [yu] at f4; omega
 have N : g.ρ id < w.heap.size:=(yc.1 z).1
 have M:=replace (g':=g) (w':=w.setRow (g.ρ id) (zbs f (n * sz) vs)) (new:=.cells (e + 1) sz (es.take n ++ ys)) R l (fun b => b = g.ρ id) rfl rfl rfl (by simp)
  (fun b G ht => ⟨setRow_other w _ _ _ ht,rfl,fun _ h => h⟩)
  (fun b G => ⟨.inl (by rw [G]; exact A),rfl,fun o h => absurd (by rw [G] at h; exact h) (O o)⟩) (fun _ _ _ h => h) (fun _ _ => rfl) (fun _ _ _ => rfl) (fun b o h => by simpa using R.nb b o h)
  (fun S U P B => by
   rw [zo l] at B;injection B with B;injection B with hs1 hs2;injection hs2 with hs2 hs3
   exact .inr ⟨e + 1,_,by rw [zo (zn l),hs2],by omega⟩)
  (fun es' h => by cases h) (fun k n h => by simp [zkF,l,Ob.fr] at h)
  (fun _ _ h => by cases h) (fun H Q => by
   refine ⟨A,O,_,r,setRow_heap w _ _ _ _ _ z,?_,fun i x q => ?_⟩
   ·rw [zc4 d,yb,yi,yt (by omega)]
    rw [yu] at f4;omega
   ·rw [ym] at q
    have X : (es.take n).length = n:=(by rw [yi]; omega);rw [X] at q
    by_cases ci : i < n
    ·rw [if_pos ci,List.getElem?_take,if_pos ci] at q
     refine ⟨(p i x q).1,fun j c v => ?_⟩;obtain ⟨u,L,J,E⟩:=(p i x q).2 j c v;have K : j < sz:=(by have:=za v; have:=(p i x q).1; omega);exact ⟨u,by rw [zdb d,if_pos (inside ci K)]; exact L,H.zq c u J,E⟩
    ·rw [if_neg ci] at q
     refine ⟨(D _ x q).1,fun j c v => ?_⟩;obtain ⟨u,L,J,E⟩:=(D _ x q).2 j c v;have K : j < sz:=(by have:=za v; have:=(D _ x q).1; omega);have V:=inside (za q) K
     have y : i * sz + j = n * sz + ((i - n) * sz + j):=by
      rw [yx];have : n * sz ≤ i * sz:=ya _ (yp ci);omega
     refine ⟨u,?_,H.zq c u J,E⟩;rw [zdb d,if_neg (by omega),if_pos (by omega),y,yg]
     simpa using L)
 obtain ⟨Z,M⟩:=M;refine ⟨f,r,by simpa using f2 (by omega),z,d,Z,M,?_⟩;simp only [zq];refine ⟨e + 1,sz,_,zo (zn l),yd _,fun _ => ⟨a,c,rfl,m,fun h => ?_,fun _ => ⟨?_,f2,zbs f (n * sz) vs,r,setRow_heap w _ _ _ _ _ z,?_⟩⟩,_,_,rfl⟩
 ·rw [yb,yi,yt (by omega)] at h
  omega
 ·rw [yb,yi,yt (by omega)]
  omega
 ·rw [zc4 d]; exact f4
theorem zyE (R : Rel g w σ) {id a sz n c : Nat} {e : TypeId} {es ys : List (List C)} {us vs : List Value} {arr : Array Value} (f : σ[id]? = some (.cells a sz es)) (Y : n ≤ es.length)
  (I : us.length = n * sz) (P : zb9 g w σ us.toArray sz (es.take n)) (V : vs.length = ys.length * sz) (L : zb9 g w σ vs.toArray sz ys) (r : n + ys.length ≤ c) (Z : 0 < n + ys.length)
  (l : ∃ rest,arr.toList = us ++ vs ++ rest) (t : arr.size = c * sz) :
  ∃ g',Ext g w σ g' (w.alloc (.cells arr e)) (σ.set id (.cells (a + 1) sz (es.take n ++ ys))) ∧
    Rel g' (w.alloc (.cells arr e)) (σ.set id (.cells (a + 1) sz (es.take n ++ ys))) ∧
    zq g' (w.alloc (.cells arr e)) (σ.set id (.cells (a + 1) sz (es.take n ++ ys))) (.own id (a + 1) 0 (n + ys.length)) (.slice (some ⟨w.heap.size,0,none⟩) (n + ys.length) c):=by
 obtain ⟨rest,l⟩:=l;have v:=z7 w (.cells arr e);have z : (es.take n).length = n:=by rw [yi]; omega
 let g' : G:=g.own id w.heap.size
 have K : ∀ b,b < w.heap.size → g'.ow b = g.ow b:=fun b p => zP g.ow (k:=w.heap.size) (i:=b) _ (by omega);have D : ∀ b,b < w.heap.size → zrh g w g' (w.alloc (.cells arr e)) b:=fun b p => ⟨heap_alloc_old w _ p,K b p,fun o h => h⟩
 have m : ∀ q u,(us ++ vs)[q]? = some u → arr[q]? = some u:=fun q u h => by
  rw [← yw,l,yf (za h)];exact h
 have J:=replace (g':=g') (w':=w.alloc (.cells arr e)) (new:=.cells (a + 1) sz (es.take n ++ ys)) R f (fun _ => False) rfl rfl rfl (by rw [size_alloc]; omega)
  (fun b p _ => D b p) (fun b p => p.elim) (fun b1 M _ h => h) (fun j W => zP g.ρ (k:=id) (i:=j) _ W) (fun _ _ _ => rfl)
  (fun b1 M h => by rw [size_alloc]; have:=R.nb b1 M h; omega)
  (fun Q S N y => by
   rw [zo f] at y;injection y with y;injection y with hs1 hs2;injection hs2 with hs2 hs3
   exact .inr ⟨a + 1,_,by rw [zo (zn f),hs2],by omega⟩)
  (fun es' h => by cases h) (fun k n h => by simp [zkF,f,Ob.fr] at h)
  (fun _ _ h => by cases h) (fun H O => by
   refine ⟨by simp [g',G.own],fun o h => absurd (R.nb _ _ (by simpa [g',G.own] using h)) (yy _),arr,e,by simpa [g',G.own] using v,?_,fun i x d => ?_⟩
   ·rw [t,yb,z]
    exact ya _ r
   ·rw [ym,z] at d
    by_cases ci : i < n
    ·rw [if_pos ci] at d
     refine ⟨(P i x d).1,fun j c r => ?_⟩;obtain ⟨u,E,B,A⟩:=(P i x d).2 j c r;refine ⟨u,m _ u ?_,H.zq c u B,A⟩;have s : us[i * sz + j]? = some u:=(by simpa using E);rw [yf (za s)];exact s
    ·rw [if_neg ci] at d
     refine ⟨(L _ x d).1,fun j c r => ?_⟩;obtain ⟨u,E,B,A⟩:=(L _ x d).2 j c r;refine ⟨u,m _ u ?_,H.zq c u B,A⟩
     have U : i * sz + j = us.length + ((i - n) * sz + j):=by
      rw [I,yx];have : n * sz ≤ i * sz:=ya _ (yp ci);omega
     rw [U,List.getElem?_append_right (by omega),yg]
     simpa using E)
 obtain ⟨X,J⟩:=J;refine ⟨g',X,J,?_⟩;simp only [zq];refine ⟨a + 1,sz,_,zo (zn f),yd _,fun _ => ⟨_,c,rfl,r,fun h => ?_,fun _ => ⟨?_,fun _ => by simp [g',G.own],arr,e,by simpa [g',G.own] using v,by rw [t,yu]; exact yd _⟩⟩,_,_,rfl⟩
 ·rw [yb,z] at h
  omega
 ·rw [yb,z]
  omega
theorem map_set (R : Rel g w σ) {id clock clock' : Nat} {es es' : List (Int × V)} {zB ents' : Array MapEntry} (a : σ[id]? = some (.mp es)) (p : w.heap[g.ρ id]? = some (.map zB clock))
  (hm : ∀ {g' : G} {w' : World} {σ' : zb},Ext g w σ g' w' σ' → zjr g' w' σ' es' ents'.toList clock') :
  Ext g w σ g { w with heap:=w.heap.setIfInBounds (g.ρ id) (.map ents' clock') } (σ.set id (.mp es')) ∧ Rel g { w with heap:=w.heap.setIfInBounds (g.ρ id) (.map ents' clock') } (σ.set id (.mp es')):=by
 obtain ⟨d,f,_,_,_,_⟩:=R.ob id _ a;have c : g.ρ id < w.heap.size:=(yc.1 p).1
 refine replace (g':=g) R a (fun b => b = g.ρ id) rfl rfl rfl (by simp) (fun b e r => ⟨?_,rfl,fun _ h => h⟩)
  (fun b e => ⟨.inl (by rw [e]; exact d),rfl,fun o h => absurd (by rw [e] at h; exact h) (f o)⟩) (fun _ _ _ h => h) (fun _ _ => rfl) (fun _ _ _ => rfl) (fun b o h => by simpa using R.nb b o h)
  (fun j l i q => by simp [shapeOf,a,Ob.shape] at q) (fun m h => ⟨rfl,es',rfl⟩) (fun k n h => by simp [zkF,a,Ob.fr] at h)
  (fun _ _ h => by cases h) (fun H => ⟨d,f,ents',clock',?_,hm H⟩)
 ·simp only [ye]
  rw [if_neg (Ne.symm r)]
 ·simp only [ye]
  simp [c]
end
def zxd : Value → Value → Bool
 | .bool a,.bool b => a == b
 | .int k a,.int k' b => decide (k = k') && decide (a = b)
 | .string a,.string b => decide (a = b)
 | .pointer none,.pointer none => true
 | .map none,.map none => true
 | .nilFunc,.nilFunc => true
 | .slice none 0 0,.slice none 0 0 => true
 | _,_ => false
theorem zrt {u v : Value} (h : zxd u v = true) : u = v ∧ zxN v = true:=by
 unfold zxd at h;split at h <;> simp_all [zxN]
def ztT : Value → C → Bool
 | .slice none 0 0,.f (.sl []) => true
 | v,.f (.lit v') => zxd v v'
 | _,_ => false
def zdR : List Value → List C → Bool
 | [],[] => true
 | v :: vs,c :: cs => ztT v c && zdR vs cs
 | _,_ => false
def zmm : Value → V → Bool
 | .agg us,.agg cs => zdR us.toList cs
 | v,.one c => ztT v c
 | _,_ => false
section
variable {g : G} {w : World} {σ : zb}
theorem zlm {v : Value} {c : C} (h : ztT v c = true) : zq g w σ c v ∧ v.oneCell' = true:=by
 unfold ztT at h;split at h
 ·refine ⟨?_,rfl⟩
  rw [zq,rep];exact ⟨none,0,0,rfl,yd _,by simp only [zbr],.inl rfl⟩
 ·obtain ⟨e,a⟩:=zrt h
  subst e;refine ⟨by rw [zq,rep]; exact ⟨rfl,a⟩,?_⟩;cases v <;> simp_all [zxN,Value.oneCell']
 ·cases h
theorem zal : ∀ {vs : List Value} {cs : List C},zdR vs cs = true → zm g w σ cs vs ∧ ∀ v ∈ vs,v.oneCell' = true
 | [],[],_ => by simp [zm]
 | v :: vs,c :: cs,h => by
   simp only [zdR,yj] at h;obtain ⟨e,a⟩:=zlm (g:=g) (w:=w) (σ:=σ) h.1;obtain ⟨d,b⟩:=zal h.2;refine ⟨by simp only [zm]; exact ⟨v,vs,rfl,e,d⟩,fun u hu => ?_⟩;rcases List.mem_cons.1 hu with rfl | hu
   ·exact a
   ·exact b u hu
 | [],_ :: _,h => by simp [zdR] at h
 | _ :: _,[],h => by simp [zdR] at h
theorem zdD {v : Value} {x : V} (h : zmm v x = true) : ze g w σ x v:=by
 unfold zmm at h;split at h
 ·rename_i us cs
  simp only [ze];exact ⟨us,rfl,(zal h).1⟩
 ·simp only [ze]
  exact (zlm h).1
 ·cases h
end
def okX (κ : List Tmp) (loc : List (Option Tmp)) : Operand → X → Bool
 | .tmp t,.s i => κ[i]? == some t
 | .tmp t,.l d => loc[d]? == some (some t) && (loc.take d).all (· != some t)
 | .const v,.c x => zmm v x
 | .func f,.c (.one (.fn f' [] [])) => f == f'
 | _,_ => false
structure Fr (κ : List Tmp) (loc : List (Option Tmp)) (nt : Nat) (g : G) (w : World) (r : R) (a : Act) : Prop where
 size : a.tmps.size = nt
 len : r.env.length = κ.length
 env : ∀ (i : Nat) (t : Tmp),κ[i]? = some t → ze g w r.st (r.env.getD i vun) (a.tmps.getD t undef)
 lc : ∀ (d : Nat) (t : Tmp),loc[d]? = some (some t) → (loc.take d).all (· != some t) = true → ze g w r.st (r.rs.getD d vun) (a.tmps.getD t undef)
 lk : ∀ (d : Nat) (t : Tmp),loc[d]? = some (some t) → t ∉ κ
 nd : κ.Nodup
 bd : ∀ t ∈ κ,t < nt
 df : a.defers = []
section
variable {κ : List Tmp} {loc : List (Option Tmp)} {nt : Nat} {g : G} {w : World} {r : R} {a : Act}
theorem Fr.get (F : Fr κ loc nt g w r a) {x : Operand} {y : X} (h : okX κ loc x y = true) : ze g w r.st (r.get y) (a.eval x):=by
 unfold okX at h;split at h
 ·exact F.env _ _ (by simpa using h)
 ·simp only [yj,beq_iff_eq] at h
  exact F.lc _ _ h.1 h.2
 ·exact zdD h
 ·rename_i f f'
  have e : f = f':=by simpa using h
  subst e;simp only [R.get,Act.eval,ze,zq];exact ⟨_,_,rfl,by simp [zm],by simp [zm]⟩
 ·cases h
theorem Fr.ext {g' : G} {w' : World} {r' : R} (F : Fr κ loc nt g w r a) (H : Ext g w r.st g' w' r'.st) (he : r'.env = r.env) (c : r'.rs = r.rs) : Fr κ loc nt g' w' r' a :=
 ⟨F.size,by rw [he]; exact F.len,fun i t h => by rw [he]; exact H.ze _ _ (F.env i t h),fun d t h b => by rw [c]; exact H.ze _ _ (F.lc d t h b),F.lk,F.nd,F.bd,F.df⟩
def okD (κ : List Tmp) (nt : Nat) : Option Tmp → D → Bool
 | none,.no => true
 | some t,.loc => !κ.contains t && decide (t < nt)
 | some t,.slot i => κ[i]? == some t
 | _,_ => false
def zaH : Option Tmp → D → Option Tmp
 | some t,.loc => some t
 | _,_ => none
theorem zfj {a : Array Value} {t b : Nat} {u : Value} : (a.setIfInBounds t u).getD b undef = if t = b ∧ t < a.size then u else a.getD b undef:=by
 simp only [Array.getD_eq_getD_getElem?,ye]
 by_cases h : t = b
 ·subst h
  by_cases c : t < a.size <;> simp [c]
 ·simp [h]
theorem zfR {α : Type} (x : α) (l : List α) (d : Nat) (z : α) : (x :: l).getD (d + 1) z = l.getD d z:=by simp
theorem Fr.put (F : Fr κ loc nt g w r a) {t : Option Tmp} {d : D} (h : okD κ nt t d = true) {v : V} {u : Value} (q : d ≠ .no → ze g w r.st v u) : Fr κ (zaH t d :: loc) nt g w (r.put d v) (a.put t u):=by
 unfold okD at h;split at h
 ·
  refine ⟨F.size,F.len,F.env,fun c f b k => ?_,fun c f b => ?_,F.nd,F.bd,F.df⟩
  ·cases c with
   | zero => simp [zaH] at b
   | succ c =>
     simp only [R.put,zfR];exact F.lc c f (by simpa using b) (by simpa [yh,zaH] using k)
  ·cases c with
   | zero => simp [zaH] at b
   | succ c => exact F.lk c f (by simpa using b)
 ·
  rename_i t;simp only [yj,Bool.not_eq_true',decide_eq_true_eq] at h;have s : t ∉ κ:=by simpa using h.1
  have p : t < a.tmps.size:=by rw [F.size]; exact h.2
  refine ⟨by simp [Act.put,F.size],F.len,fun i f b => ?_,fun c f b k => ?_,fun c f b => ?_,F.nd,F.bd,F.df⟩
  ·have j : t ≠ f:=fun e => s (by rw [e]; exact yn b)
   simp only [Act.put,zfj,j,false_and,if_false];exact F.env i f b
  ·cases c with
   | zero =>
     simp [zaH] at b;subst b;simp only [Act.put,zfj,p,and_self,if_true];exact q (by simp)
   | succ c =>
     have j : t ≠ f:=fun e => by
      subst e;simp [yh,zaH] at k
     simp only [Act.put,zfj,j,false_and,if_false,R.put,zfR];refine F.lc c f (by simpa using b) ?_;rw [yh,yz,yj] at k;exact k.2
  ·cases c with
   | zero => simp [zaH] at b; subst b; exact s
   | succ c => exact F.lk c f (by simpa using b)
 ·
  rename_i t i;have l : κ[i]? = some t:=by simpa using h
  have p : t < a.tmps.size:=by rw [F.size]; exact F.bd t (yn l)
  have n : i < r.env.length:=by rw [F.len]; exact za l
  refine ⟨by simp [Act.put,F.size],by simp [R.put,F.len],fun o f b => ?_,fun c f b k => ?_,fun c f b => ?_,F.nd,F.bd,F.df⟩
  ·simp only [Act.put,zfj,R.put,yo,yk]
   by_cases e : t = f
   ·subst e
    have : i = o:=(List.getElem?_inj (za l) F.nd).1 (l.trans b.symm);subst this;simp only [p,and_self,if_true,n,Option.getD_some];exact q (by simp)
   ·have : i ≠ o:=fun x => e (by subst x; rw [l] at b; injection b)
    simp only [e,false_and,if_false,this];have:=F.env o f b
    rwa [yo] at this
  ·cases c with
   | zero => simp [zaH] at b
   | succ c =>
     have m : loc[c]? = some (some f):=(by simpa using b);have j : t ≠ f:=fun e => F.lk c f m (by rw [← e]; exact yn l);simp only [Act.put,zfj,j,false_and,if_false,R.put,zfR];refine F.lc c f m ?_;rw [yh,yz,yj] at k;exact k.2
  ·cases c with
   | zero => simp [zaH] at b
   | succ c => exact F.lk c f (by simpa using b)
 ·cases h
end
def zgf (P : Program) (t : TypeId) : Option Nat:=(P.info? t).map (·.size)
def ziB (P : Program) (t : TypeId) : Option Bool:=(P.underlying t).map fun d => match d with
 | .struct _ | .array _ _ => true
 | _ => false
section
variable {P : Program} {κ : List Tmp} {loc : List (Option Tmp)} {nt : Nat} {g : G} {w : World} {r r' : R} {a : Act} {o : Go.Oper} {d : D} {next : Act → World → Prop} {Q : Exit → Act → World → Prop}
theorem zjT {u : Value} {w' : World} (h : (execOp a.eval o).run P w = .ok (.value u) w') (k : next (a.put o.dst u) w') : o.wp P a w next Q:=by
 unfold Oper.wp;rw [h];exact k
theorem zts {w' : World} (h : (execOp a.eval o).run P w = .ok .skip w') (k : next (a.put o.dst undef) w') : o.wp P a w next Q:=by
 unfold Oper.wp;rw [h];exact k
theorem zcX (r : R) (d : D) (v : V) : (r.put d v).st = r.st:=by cases d <;> rfl
theorem zH {σ : zb} {v u : Value} (h : ze g w σ (.one (.f (.lit v))) u) : u = v ∧ zxN v = true:=by
 simpa only [ze,zq,rep] using h
theorem zI {σ : zb} {v : Value} (h : zxN v = true) : ze g w σ (.one (.f (.lit v))) v:=by
 rw [ze,zq,rep];exact ⟨rfl,h⟩
theorem znW (op : BinOp) (t : TypeId) (x y : Operand) (e : TypeId) (f : o.op = .binOp op t x y e) {k b : IntKind} {m n : Int} (d : a.eval x = .int k m) (c : a.eval y = .int b n) :
  (execOp a.eval o).run P w = ((do let v ← binOp op t (.int k m) (.int b n); pure (Next.value v) : Sem Next)).run P w:=by
 unfold execOp;simp only [f,d,c,eqGuard];cases op <;> simp
theorem zuy {op : BinOp} {t : TypeId} {x y : Operand} {i : TypeId} (q : o.op = .binOp op t x y i) {f j v : V} (p : ze g w r.st f (a.eval x)) (l : ze g w r.st j (a.eval y)) (h : zCM op f j = some v) :
  ∃ u,(execOp a.eval o).run P w = .ok (.value u) w ∧ ze g w r.st v u:=by
 unfold zCM at h;split at h
 ·rename_i k m A n
  obtain ⟨ex,_⟩:=zH p;obtain ⟨s,_⟩:=zH l;rw [znW op t x y i q ex s];split at h
  ·rename_i c
   unfold zw9 at h;split at h
   ·rename_i b
    have d : ¬ n < 0:=by omega
    cases op <;> simp [zpi] at c <;> simp only [Option.some.injEq] at h <;> subst h <;>
     exact ⟨_,by simp [binOp,Op.shift,d],zI rfl⟩
   ·cases h
  ·rename_i c
   split at h
   ·rename_i z
    subst z;unfold zDk at h;cases op <;> simp [zpi] at c <;> simp only at h
    case quo =>
     split at h
     ·cases h
     ·rename_i b
      injection h with h;subst h;exact ⟨_,by simp [binOp,Op.intDiv,b],zI rfl⟩
    case rem =>
     split at h
     ·cases h
     ·rename_i b
      injection h with h;subst h;exact ⟨_,by simp [binOp,Op.intDiv,b],zI rfl⟩
    case andNot => cases h
    all_goals
     injection h with h;subst h;refine ⟨_,?_,zI rfl⟩;simp [binOp,Op.intArith,Op.intBits,Op.intCmp]
    all_goals (by_cases e : m = n <;> simp [e])
   ·cases h
 ·cases h
theorem zpO {x : Operand} (b : o.op = .move x ∨ o.op = .assign x) : (execOp a.eval o).run P w = .ok (.value (a.eval x)) w:=by
 unfold execOp;rcases b with b | b <;> simp [b]
theorem zuK {c x y : Operand} (k : o.op = .pick c x y) {b d e v : V} (i : ze g w r.st b (a.eval c)) (j : ze g w r.st d (a.eval x)) (f : ze g w r.st e (a.eval y)) (h : zyF d e b = some v) :
  ∃ u,(execOp a.eval o).run P w = .ok (.value u) w ∧ ze g w r.st v u:=by
 unfold zyF at h;split at h
 ·rename_i t
  obtain ⟨l,_⟩:=zH i;injection h with h;subst h;refine ⟨if t then a.eval x else a.eval y,?_,?_⟩
  ·unfold execOp
   simp [k,l,asBool]
  ·cases t
   ·simpa using f
   ·simpa using j
 ·cases h
theorem zv8 {op : UnOp} {t : TypeId} {x : Operand} (d : o.op = .unOp op t x) {b v : V} (c : ze g w r.st b (a.eval x)) (h : aun op b = some v) :
  ∃ u,(execOp a.eval o).run P w = .ok (.value u) w ∧ ze g w r.st v u:=by
 unfold aun at h;split at h
 ·obtain ⟨ex,_⟩:=zH c
  injection h with h;subst h;exact ⟨_,by unfold execOp; simp [d,ex,Op.unary],zI rfl⟩
 ·obtain ⟨ex,_⟩:=zH c
  injection h with h;subst h;exact ⟨_,by unfold execOp; simp [d,ex,Op.unary,Op.intArith],zI rfl⟩
 ·cases h
theorem zvy {k : IntKind} {s t : TypeId} {x : Operand} (e : o.op = .convert s t x) (b : (P.underlying s).isSome = true) (f : P.underlying t = some (.int k)) {c v : V} (d : ze g w r.st c (a.eval x)) (h : zzJ k c = some v) :
  ∃ u,(execOp a.eval o).run P w = .ok (.value u) w ∧ ze g w r.st v u:=by
 unfold zzJ at h;split at h
 ·obtain ⟨ex,_⟩:=zH d
  injection h with h;subst h;obtain ⟨ds,b⟩:=Option.isSome_iff_exists.1 b;exact ⟨_,by unfold execOp; simp [e,ex,convert,run_underlying b,run_underlying f,Conv.intToInt],zI rfl⟩
 ·cases h
theorem zpx {σ : zb} {xs : List (List Fz)} {u : Value} (h : ze g w σ (.one (.f (.sl xs))) u) : rep w g.N (.sl xs) u:=by simpa only [ze,zq] using h
theorem zqh {σ : zb} {t k : Nat} {xs : List (List Fz)} {u : Value} (h : ze g w σ (.one (.ap t k xs)) u) : rep w g.N (.sl xs) u:=by
 simp only [ze,zq] at h;exact h.1
theorem zhp {N : zeb} {xs : List (List Fz)} {u : Value} (h : rep w N (.sl xs) u) : ∃ a c,u = .slice a xs.length c ∧ xs.length ≤ c:=by
 simp only [rep] at h;obtain ⟨a,c,_,e,b,_⟩:=h;exact ⟨a,c,e,b⟩
theorem zeG {σ : zb} {id b lo n : Nat} {u : Value} (h : ze g w σ (.one (.own id b lo n)) u) {sz : Nat} {es : List (List C)} (d : σ[id]? = some (.cells b sz es)) : zya w (g.ρ id) sz es.length lo n u:=by
 simp only [ze,zq] at h;obtain ⟨v0,c,len,a,_,e,_⟩:=h;rw [zo d] at a;injection a with a;injection a with e1 a;injection a with e2 e3;subst e1 e2 e3;exact e rfl
theorem zuF {σ : zb} {v : V} {u : Value} {n : V} (h : ze g w σ v u) (a : zBP v = some n) : ∃ b k c,u = .slice b k c ∧ n = zzx .i64 k:=by
 unfold zBP at a;split at a
 ·simp only [ze,zq] at h
  obtain ⟨_,_,_,_,_,_,b,c,e⟩:=h;injection a with a;exact ⟨b,_,c,e,a.symm⟩
 ·obtain ⟨b,d,e,_⟩:=zhp (zpx h)
  injection a with a;exact ⟨b,_,d,e,a.symm⟩
 ·obtain ⟨b,d,e,_⟩:=zhp (zqh h)
  injection a with a;exact ⟨b,_,d,e,a.symm⟩
 ·cases a
theorem zw7 {t : TypeId} {x : Operand} {c : Go.Call} (j : o.op = .call c) (l : c.callee = .builtin .len) (f : c.args = #[x]) (d : c.argTypes = #[t]) {e : TypeId} (n : P.underlying t = some (.slice e))
  {i v : V} (m : ze g w r.st i (a.eval x)) (h : zBP i = some v) :
  ∃ u,(execOp a.eval o).run P w = .ok (.value u) w ∧ ze g w r.st v u:=by
 obtain ⟨b,k,p,e,rfl⟩:=zuF m h;refine ⟨.int .i64 k,?_,zI rfl⟩;unfold execOp;simp [j,resolve,l,f,d,e,invoke,builtin,Builtin.len_,run_underlying n,goInt]
theorem zm4 {t : TypeId} {d : Array Field} {i : Nat} {f : Field} {ad : Addr} {n : Nat} (h : P.underlying t = some (.struct d)) (g : d[i]? = some f) (b : zgf P f.type = some n) (e : n ≠ 0) :
  (Instr.fieldAt t (.pointer (some ad)) i).run P w = .ok (.pointer (some (ad.add f.offset))) w:=by
 unfold zgf at b
 cases a : P.info? f.type with
 | none => simp [a] at b
 | some inf =>
   have c : inf.size = n:=(by simpa [a] using b);simp [Instr.fieldAt,run_underlying h,g,Instr.sureAddr,fieldPlace,sizeOf,typeInfo,a,c,e]
theorem zaf (b o j : Nat) : (⟨b,o,none⟩ : Addr).add j = ⟨b,o + j,none⟩:=by unfold Addr.add; split <;> simp_all
theorem zyO {t : TypeId} {x : Operand} {i n off : Nat} {p : Array Field} {f : Field} (B : o.op = .fieldAddr t x i) (G : P.underlying t = some (.struct p)) (C : p[i]? = some f) (D : zgf P f.type = some n) (s : n ≠ 0) (c : f.offset = off)
  {m v : V} (d : ze g w r.st m (a.eval x)) (h : afa off m = some v) :
  ∃ u,(execOp a.eval o).run P w = .ok (.value u) w ∧ ze g w r.st v u:=by
 have key : ∀ ad,a.eval x = .pointer (some ad) → (execOp a.eval o).run P w = .ok (.value (.pointer (some (ad.add off)))) w:=fun ad e => by
  unfold execOp;simp only [B,e];simp [zm4 (w:=w) (ad:=ad) G C D s,c]
 unfold afa at h;split at h
 ·rename_i id E j A
  injection h with h;subst h;simp only [ze,zq] at d;obtain ⟨v0,sz,len,l,k,y,ad,q⟩:=d;refine ⟨_,key ad q,?_⟩;simp only [ze,zq];refine ⟨v0,sz,len,l,k,fun e => ?_,_,rfl⟩;have:=y e;rw [q] at this;injection this with this;injection this with this;rw [this,zaf,yq]
 ·rename_i cs A
  injection h with h;subst h;simp only [ze,zq] at d;obtain ⟨b,z,l,k⟩:=d;refine ⟨_,key _ l,?_⟩;simp only [ze,zq];exact ⟨b,z,by rw [zaf,yq],k⟩
 ·cases h
theorem zm0 {t e : TypeId} {k : IntKind} {n : Int} {ad : Addr} {len cap sz : Nat} (f : P.underlying t = some (.slice e)) (b : zgf P e = some sz) (d : 0 ≤ n) (g : n < len) :
  (Instr.indexAt t (.slice (some ad) len cap) (.int k n)).run P w = .ok (.pointer (some (ad.add (n.toNat * sz)))) w:=by
 unfold zgf at b
 cases a : P.info? e with
 | none => simp [a] at b
 | some inf =>
   have c : inf.size = sz:=(by simpa [a] using b);simp [Instr.indexAt,asIntOf,run_underlying f,d,g,sizeOf,typeInfo,a,c]
theorem znX {t e : TypeId} {k : IntKind} {n : Int} {ad : Addr} {len sz : Nat} (f : P.underlying t = some (.array len e)) (b : zgf P e = some sz) (d : 0 ≤ n) (g : n < len) :
  (Instr.indexAt t (.pointer (some ad)) (.int k n)).run P w = .ok (.pointer (some (ad.add (n.toNat * sz)))) w:=by
 unfold zgf at b
 cases a : P.info? e with
 | none => simp [a] at b
 | some inf =>
   have c : inf.size = sz:=(by simpa [a] using b);simp [Instr.indexAt,asIntOf,run_underlying f,d,g,sizeOf,typeInfo,a,c,Instr.sureAddr]
theorem zik {a sz : Nat} {b : Ob} (h : b.isRow a sz = true) : ∃ es,b = .cells a sz es:=by
 unfold Ob.isRow at h;split at h
 ·simp at h
  obtain ⟨rfl,rfl⟩:=h;exact ⟨_,rfl⟩
 ·cases h
theorem zqE {t e : TypeId} {x i : Operand} {sz : Nat} (B : o.op = .indexAddr t x i) (G : P.underlying t = some (.slice e)) (D : zgf P e = some sz) {xs : List (List Fz)} {k : IntKind} {n : Int} (s : rep w g.N (.sl xs) (a.eval x)) (y : a.eval i = .int k n)
  {v : V} (A : 0 ≤ n) (h : (xs[n.toNat]?).bind (zCk sz) = some v) : ∃ u,(execOp a.eval o).run P w = .ok (.value u) w ∧ ze g w r.st v u:=by
 rw [yv] at h;obtain ⟨el,j,f⟩:=h;unfold zCk at f;split at f
 ·rename_i l
  injection f with f;subst f;simp only [rep] at s;obtain ⟨ad,c,d,C,e2,E,q⟩:=s;rcases q with rfl | ⟨b,m,rfl,q⟩
  ·simp at j
  ·have z:=za j
   have p : d = sz:=(by rw [← zba E j,l]);subst p;refine ⟨.pointer (some ⟨b,m + n.toNat * d,none⟩),?_,?_⟩
   ·unfold execOp
    simp only [B,C,y];simp [zm0 (w:=w) (ad:=⟨b,m,none⟩) (cap:=c) G D A (by omega : n < (xs.length : Int)),zaf]
   ·simp only [vfp,ze,zq]
    exact ⟨b,m + n.toNat * d,rfl,zda q j⟩
 ·cases f
theorem zzY {t e : TypeId} {x i : Operand} {sz : Nat} (q : o.op = .indexAddr t x i) (z : P.underlying t = some (.slice e)) (s : zgf P e = some sz)
  {A C v : V} (l : ze g w r.st A (a.eval x)) (j : ze g w r.st C (a.eval i)) (h : aia r.st sz A C = some v) :
  ∃ u,(execOp a.eval o).run P w = .ok (.value u) w ∧ ze g w r.st v u:=by
 unfold aia at h;split at h
 ·rename_i id y lo n k m
  obtain ⟨ei,_⟩:=zH j;split at h
  ·rename_i hm
   rw [yv] at h;obtain ⟨H,B,b⟩:=h;unfold zqL at b;split at b
   ·rename_i f
    injection b with b;subst b;obtain ⟨es,rfl⟩:=zik f;obtain ⟨ad,c,D,e2,E,G⟩:=zeG l B;have p : es.length ≠ 0:=fun d => by have:=E d; omega
    obtain ⟨f1,f2,_⟩:=G p;have f3:=f2 (by omega);subst f3;refine ⟨.pointer (some ⟨g.ρ id,lo * sz + m.toNat * sz,none⟩),?_,?_⟩
    ·unfold execOp
     simp only [q,D,ei];simp [zm0 (w:=w) (ad:=⟨g.ρ id,lo * sz,none⟩) (cap:=c) z s hm.1 hm.2,zaf]
    ·simp only [ze,zq]
     exact ⟨y,sz,es.length,zo B,yd _,fun _ => by rw [yr,Nat.add_zero],_,rfl⟩
   ·cases b
  ·cases h
 ·obtain ⟨ei,_⟩:=zH j
  split at h
  ·rename_i d
   exact zqE q z s (zpx l) ei d h
  ·cases h
 ·obtain ⟨ei,_⟩:=zH j
  split at h
  ·rename_i d
   exact zqE q z s (zqh l) ei d h
  ·cases h
 ·cases h
theorem zxI {t e : TypeId} {x i : Operand} {len sz : Nat} (B : o.op = .indexAddr t x i) (D : P.underlying t = some (.array len e)) (C : zgf P e = some sz)
  {p q v : V} (d : ze g w r.st p (a.eval x)) (n : ze g w r.st q (a.eval i)) (h : zCQ len sz p q = some v) :
  ∃ u,(execOp a.eval o).run P w = .ok (.value u) w ∧ ze g w r.st v u:=by
 have key : ∀ ad k m,a.eval x = .pointer (some ad) → a.eval i = .int k m → 0 ≤ m ∧ m < len → (execOp a.eval o).run P w = .ok (.value (.pointer (some (ad.add (m.toNat * sz))))) w:=fun ad k m e A hm => by
  unfold execOp;simp only [B,e,A];simp [znX (w:=w) (ad:=ad) D C hm.1 hm.2]
 unfold zCQ at h;split at h
 ·obtain ⟨ei,_⟩:=zH n
  split at h
  ·rename_i hm
   injection h with h;subst h;simp only [ze,zq] at d;obtain ⟨v0,l,c,j,f,y,ad,s⟩:=d;refine ⟨_,key ad _ _ s ei hm,?_⟩;simp only [ze,zq];refine ⟨v0,l,c,j,f,fun e => ?_,_,rfl⟩;have:=y e;rw [s] at this;injection this with this;injection this with this;rw [this,zaf,yq]
  ·cases h
 ·obtain ⟨ei,_⟩:=zH n
  split at h
  ·rename_i hm
   injection h with h;subst h;simp only [ze,zq] at d;obtain ⟨b,z,j,f⟩:=d;refine ⟨_,key _ _ _ j ei hm,?_⟩;simp only [ze,zq];exact ⟨b,z,by rw [zaf,yq],f⟩
  ·cases h
 ·cases h
end
end Go.A

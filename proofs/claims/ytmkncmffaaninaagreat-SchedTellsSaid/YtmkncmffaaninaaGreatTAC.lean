/- A part of the proof of SchedTells. Conditions: none. -/
import Derived.Test.YtmkncmffaaninaaGreatTAB
import Derived.Orders
import Derived.Laws.Entries
import Derived.Laws.Small
import Derived.ChangeKeysEq
set_option linter.all false
open Nat renaming mul_le_mul_right → ya,le_refl → yd,add_sub_cancel_left → yg,le_of_not_lt → yp,add_assoc → yq,add_mul → yr,min_eq_left → yt,zero_add → yu,sub_mul → yx,lt_irrefl → yy
open List renaming length_append → yb,getElem?_append_left → yf,take_succ_cons → yh,length_take → yi,getElem?_set → yk,getElem?_set_ne → yl,getElem?_append → ym,mem_of_getElem? → yn,getD_eq_getElem?_getD → yo,all_cons → yz
open Array renaming getElem?_eq_some_iff → yc,getElem?_setIfInBounds → ye,getElem?_toList → yw
open Bool renaming and_eq_true → yj
open Option renaming bind_eq_some_iff → yv
namespace Go.A
section
variable {g : G} {w : World} {σ : zd}
theorem zl3 {w : World} {b i : Nat} {arr a : Array Value} {t : TypeId} (h : w.heap[b]? = some (.cells arr t (0,0))) : (w.setRow b a).cell? ⟨b,i,none⟩ = a[i]?:=cell_setRow_same w b i arr a t (0,0) h
theorem ziQ {w : World} {b i : Nat} {arr : Array Value} {t : TypeId} {fr : Nat × Nat} (h : w.heap[b]? = some (.cells arr t fr)) : w.cell? ⟨b,i,none⟩ = arr[i]?:=by simp [World.cell?,h]
theorem zsw {g' : G} {w' : World} {t k n sz : Nat} {fr : List Nat} (R : Rel g w σ) (q : σ[t]? = some (.tok sz fr)) (f : ∀ k',k' ≠ k → g'.tv t k' = g.tv t k') (i : ∀ b k',b < w.heap.size → g.ow b = .tk t k' → k' ≠ k → zuO g w g' w' b)
  (v : ∀ n',(fr.set k n)[k]? = some n' → (n' = 0 ∧ ∃ a,g'.tv t k = .slice a 0 0) ∨
   ∃ b o c arr ty,g'.tv t k = .slice (some ⟨b,o,none⟩) n' c ∧ 0 < c ∧ n' ≤ c ∧ g'.ow b = .tk t k ∧ w'.heap[b]? = some (.cells arr ty (0,0)) ∧ o + c * sz ≤ arr.size ∧ ∀ o',g'.N b o' → o' < o + n' * sz) : zCe g' w' (σ.set t (.tok sz (fr.set k n))) t (.tok sz (fr.set k n)):=by
 intro k' n' h
 by_cases e : k' = k
 ·subst e; exact v n' h
 ·rw [yl (Ne.symm e)] at h
  rw [f k' e];rcases R.ob t _ q k' n' h with h | ⟨b,o,c,arr,ty,p,x,u,l,j,z,y⟩
  ·exact .inl h
  ·obtain ⟨r,m,s⟩:=i b k' (yc.1 j).1 l e
   exact .inr ⟨b,o,c,arr,ty,p,x,u,m.trans l,r.trans j,z,fun o' d => y o' (s o' d)⟩
theorem zjX {t k n a sz : Nat} {fr : List Nat} (c : σ[t]? = some (.tok sz fr)) (b : fr[k]? = some n) : znR (σ.set t (.tok sz (fr.set k a))) t k = some a:=by
 refine zd3 (zD c) ?_;rw [yk];simp [zb b]
theorem zEc (R : Rel g w σ) {t k sz b o c : Nat} {fr : List Nat} {xs ys : List (List Fz)} {vs : List Value} (m : σ[t]? = some (.tok sz fr)) (J : fr[k]? = some xs.length) (hu : g.tv t k = .slice (some ⟨b,o,none⟩) xs.length c)
  (aB : 0 < xs.length + ys.length) (Z : rep w g.N (.sl xs) (.slice (some ⟨b,o,none⟩) xs.length c)) (E : zb9 sz xs) (I : Lay w g.N sz ys vs) (f : xs.length + ys.length ≤ c) :
  ∃ arr ty g',w.heap[b]? = some (.cells arr ty (0,0)) ∧ o + xs.length * sz + vs.length ≤ arr.size ∧
    Ext g w σ g' (w.setRow b (zdr arr (o + xs.length * sz) vs)) (σ.set t (.tok sz (fr.set k (xs.length + ys.length)))) ∧
    Rel g' (w.setRow b (zdr arr (o + xs.length * sz) vs)) (σ.set t (.tok sz (fr.set k (xs.length + ys.length)))) ∧
    zz g' (w.setRow b (zdr arr (o + xs.length * sz) vs)) (σ.set t (.tok sz (fr.set k (xs.length + ys.length)))) (.ap t k (xs ++ ys)) (.slice (some ⟨b,o,none⟩) (xs.length + ys.length) c):=by
 have K:=R.ob t _ m k _ J;rcases K with ⟨h0,a0,r⟩ | ⟨b',o',c',arr,ty,z,_,h3,P,y,h6,Y⟩
 ·rw [hu] at r
  injection r with _ _ r;omega
 rw [hu] at z;injection z with z _ h1c;injection z with z;injection z with h1a h1b;subst h1a h1b h1c;have hm : (xs.length + ys.length) * sz ≤ c * sz:=ya _ f;rw [yr] at hm;have l : o + xs.length * sz + vs.length ≤ arr.size:=by rw [I.1]; omega
 have C : b < w.heap.size:=(yc.1 y).1
 let g' : G:={ g.setTv t k (.slice (some ⟨b,o,none⟩) (xs.length + ys.length) c) with N:=fun b1 a => g.N b1 a ∨ (b1 = b ∧ o + xs.length * sz ≤ a ∧ a < o + (xs.length + ys.length) * sz) }
 have s : ∀ a,g.N b a → (w.setRow b (zdr arr (o + xs.length * sz) vs)).cell? ⟨b,a,none⟩ = w.cell? ⟨b,a,none⟩:=fun a h => by
  rw [zl3 y,ziQ y,zf8 l,if_pos (Y a h)]
 have Q:=replace (g':=g') (w':=w.setRow b (zdr arr (o + xs.length * sz) vs)) (new:=.tok sz (fr.set k (xs.length + ys.length))) R m (fun b1 => b1 = b) rfl rfl rfl (by simp)
  (fun b1 n L => ⟨setRow_other w _ _ _ L,rfl,fun a h => h.elim id fun h => absurd h.1 L⟩)
  (fun b1 n => ⟨.inr ⟨k,by rw [n]; exact P⟩,rfl,fun a h => ⟨.inl h,by subst n; exact s a h⟩⟩)
  (fun b1 a _ h => .inl h) (fun _ _ => rfl) (fun j A O => G.setTv_ne g _ (by simp [O])) (fun b1 a h => by
   rw [setRow_size];rcases h with h | h
   ·exact R.nb b1 a h
   ·rw [h.1]; exact C)
  (fun W aE aA hs => by simp [shapeOf,m,Ob.shape] at hs) (fun es h => by cases h)
  (fun A X h => by
   by_cases e : A = k
   ·subst e
    rw [zd3 m J] at h;injection h with h;subst h;refine ⟨_,zjX m J,by omega,fun e => ?_⟩;have : ys.length = 0:=by omega
    show (g.setTv t A _).tv t A = _
    rw [G.setTv_same,hu,this];rfl
   ·obtain ⟨D,aC,q,S⟩:=zdi h
    rw [m] at q;injection q with q;injection q with q k1';subst q k1'
    exact ⟨X,zd3 (zD m) (by rw [yl (Ne.symm e)]; exact S),yd _,fun _ => G.setTv_ne g _ (by simp [e])⟩)
  (fun _ _ h => by injection h with h _; exact ⟨_,by rw [h]⟩)
  (fun H => zsw R m (fun A e => G.setTv_ne g _ (by simp [e]))
   (fun b1 A n d B => ⟨setRow_other w _ _ _ (fun e => by subst e; rw [P] at d; injection d with _ d; exact B d.symm),rfl,fun a h => h.elim id fun h => by
    exfalso;rw [h.1,P] at d;injection d with _ d
    exact B d.symm⟩)
   (fun X v => by
    rw [yk] at v;simp [zb J] at v;subst v
    exact .inr ⟨b,o,c,_,ty,G.setTv_same _ _ _ _,by omega,f,P,setRow_heap w _ _ _ _ _ y,by rw [zfV l]; exact h6,fun a h => by
     rcases h with h | h
     ·have:=Y a h
      rw [yr];omega
     ·exact h.2.2⟩))
 obtain ⟨U,Q⟩:=Q;refine ⟨arr,ty,g',y,l,U,Q,?_⟩;simp only [zz]
 have V : zb9 sz (xs ++ ys):=zfK fun e he => by
  rcases List.mem_append.1 he with he | he
  ·exact zf7 E e he
  ·exact zf7 I.2.1 e he
 refine ⟨?_,xs.length + ys.length,zjX m J,by simp,fun _ => (G.setTv_same _ _ _ _).symm,sz,zct (zD m),V⟩;have:=zxh (w:=w.setRow b (zdr arr (o + xs.length * sz) vs)) (N:=g'.N) (b:=b) (o:=o) (c:=c) V (by simpa using f) (zgG fun i e p => ?_)
 ·simpa using this
 ·rw [ym] at p
  by_cases ci : i < xs.length
  ·rw [if_pos ci] at p
   simp only [rep] at Z;obtain ⟨a1,c1,D,e1,e2,e3,e4⟩:=Z;rcases e4 with e4 | ⟨b1,a,e4,e5⟩
   ·rw [e4] at ci; simp at ci
   ·injection e1 with e1 _ e1c
    rw [e4] at e1;injection e1 with e1;injection e1 with e1a e1b;subst e1a e1b;have M : D = sz:=(by rw [← zcb e3 p,zcb E p]);subst M;exact zfT U.keeps _ _ _ (zf1 e5 p)
  ·rw [if_neg ci] at p
   refine ziW fun j x O => ?_;obtain ⟨u,q,S,_⟩:=I.2.2 _ e p j x O;have aD:=inside (zb p) (by have:=zb O; have:=zcb I.2.1 p; omega : j < sz)
   have e1 : o + i * sz + j = o + xs.length * sz + ((i - xs.length) * sz + j):=by
    rw [yx];have : xs.length * sz ≤ i * sz:=ya _ (yp ci);omega
   refine ⟨u,.inr ⟨rfl,by omega,by rw [yr]; omega⟩,?_,zdb U.keeps x u S⟩;rw [zl3 y,zf8 l,if_neg (by omega),if_pos (by rw [I.1]; omega),e1,yg];exact q
theorem drawn (R : Rel g w σ) (m : Nat) : Ext g w σ g (w.drewN m) σ ∧ Rel g (w.drewN m) σ:=by
 have H : Ext g w σ g (w.drewN m) σ:={
  os:=rfl
  tape:=rfl
  output:=rfl
  size:=yd _
  keeps:=fun _ _ h => ⟨h,rfl⟩
  len:=yd _
  shape:=fun id a sz len h => .inl ⟨h,rfl,fun _ arr t b => ⟨arr,b,rfl⟩⟩
  map:=fun id es h => ⟨rfl,es,h⟩
  tok:=fun t k n h => ⟨n,h,yd _,fun _ => rfl⟩
  tsz:=fun _ _ h => h
  ow:=fun _ _ => rfl
  new:=fun _ _ h _ _ => h
  frame:=fun _ _ _ => rfl }
 exact ⟨H,⟨R.nb,fun id o h => zdq H rfl (fun _ => rfl) (fun _ _ _ => ⟨rfl,rfl,fun _ h => h⟩) (R.ob id o h)⟩⟩
theorem zCl (R : Rel g w σ) {t k sz c : Nat} {e : TypeId} {fr : List Nat} {xs ys : List (List Fz)} {us vs : List Value} {arr : Array Value} (f : σ[t]? = some (.tok sz fr)) (x : fr[k]? = some xs.length)
  (S : Lay w g.N sz xs us) (P : Lay w g.N sz ys vs) (W : 0 < xs.length + ys.length) (E : xs.length + ys.length ≤ c) (a : ∃ rest,arr.toList = us ++ vs ++ rest) (y : arr.size = c * sz) (A : 0 < ys.length) :
  ∃ g',Ext g w σ g' (w.alloc (.cells arr e)) (σ.set t (.tok sz (fr.set k (xs.length + ys.length)))) ∧
    Rel g' (w.alloc (.cells arr e)) (σ.set t (.tok sz (fr.set k (xs.length + ys.length)))) ∧
    zz g' (w.alloc (.cells arr e)) (σ.set t (.tok sz (fr.set k (xs.length + ys.length)))) (.ap t k (xs ++ ys)) (.slice (some ⟨w.heap.size,0,none⟩) (xs.length + ys.length) c):=by
 obtain ⟨rest,a⟩:=a;have d:=S.append P;have r:=zbu w (.cells arr e)
 let g' : G:={ g.setTv t k (.slice (some ⟨w.heap.size,0,none⟩) (xs.length + ys.length) c) with ow:=zzd g.ow w.heap.size (.tk t k),N:=fun b1 p => g.N b1 p ∨ (b1 = w.heap.size ∧ p < (xs.length + ys.length) * sz) }
 have z : ∀ b,b < w.heap.size → g'.ow b = g.ow b:=fun b m => zaQ g.ow (k:=w.heap.size) (i:=b) _ (by omega);have s : ∀ b,b < w.heap.size → zuO g w g' (w.alloc (.cells arr e)) b:=fun b m => ⟨heap_alloc_old w _ m,z b m,fun o h => h.elim id fun h => by omega⟩
 have B:=replace (g':=g') (w':=w.alloc (.cells arr e)) (new:=.tok sz (fr.set k (xs.length + ys.length))) R f (fun _ => False) rfl rfl rfl (by rw [size_alloc]; omega)
  (fun b m _ => s b m) (fun b m => m.elim) (fun b1 p _ h => .inl h) (fun _ _ => rfl) (fun j u q => G.setTv_ne g _ (by simp [q]))
  (fun b1 p h => by
   rw [size_alloc];rcases h with h | h
   ·have:=R.nb b1 p h; omega
   ·omega)
  (fun L V K U => by simp [shapeOf,f,Ob.shape] at U) (fun es h => by cases h)
  (fun u I h => by
   by_cases e : u = k
   ·subst e
    rw [zd3 f x] at h;injection h with h;subst h;exact ⟨_,zjX f x,by omega,fun e => by omega⟩
   ·obtain ⟨M,Q,n,O⟩:=zdi h
    rw [f] at n;injection n with n;injection n with n k1';subst n k1'
    exact ⟨I,zd3 (zD f) (by rw [yl (Ne.symm e)]; exact O),yd _,fun _ => G.setTv_ne g _ (by simp [e])⟩)
  (fun _ _ h => by injection h with h _; exact ⟨_,by rw [h]⟩)
  (fun H => zsw R f (fun u e => G.setTv_ne g _ (by simp [e])) (fun b1 u C _ _ => s b1 C)
   (fun I l => by
    rw [yk] at l;simp [zb x] at l;subst l;refine .inr ⟨w.heap.size,0,c,arr,e,G.setTv_same _ _ _ _,by omega,E,zhJ _ _ _,r,by rw [y]; omega,fun p h => ?_⟩;rcases h with h | h
    ·exact absurd (R.nb _ _ h) (yy _)
    ·have:=h.2; omega))
 obtain ⟨J,B⟩:=B;refine ⟨g',J,B,?_⟩;simp only [zz];refine ⟨?_,xs.length + ys.length,zjX f x,by simp,fun _ => (G.setTv_same _ _ _ _).symm,sz,zct (zD f),d.2.1⟩;have:=zxh (w:=w.alloc (.cells arr e)) (N:=g'.N) (b:=w.heap.size) (o:=0) (c:=c) d.2.1 (by simpa using E) (zmd d J.keeps fun j v q => ?_)
 ·simpa using this
 ·have D:=zb q
  rw [d.1,yb] at D;refine ⟨.inr ⟨rfl,by omega⟩,?_⟩;rw [yu,ziQ r,← yw,a,yf (zb q)];exact q
theorem zCQ (R : Rel g w σ) {id e sz n c : Nat} {es ys : List (List C)} {vs : List Value} {a : Option Addr} (l : σ[id]? = some (.cells e sz es)) (y : es ≠ []) (hu : zBX w (g.ρ id) sz es.length 0 n (.slice a n c))
  (B : vs.length = ys.length * sz) (J : zci g w σ vs.toArray sz ys) (m : n + ys.length ≤ c) (h0 : 0 < n + ys.length) :
  ∃ arr ty,a = some ⟨g.ρ id,0,none⟩ ∧ w.heap[g.ρ id]? = some (.cells arr ty (0,0)) ∧ n * sz + vs.length ≤ arr.size ∧
    Ext g w σ g (w.setRow (g.ρ id) (zdr arr (n * sz) vs)) (σ.set id (.cells (e + 1) sz (es.take n ++ ys))) ∧
    Rel g (w.setRow (g.ρ id) (zdr arr (n * sz) vs)) (σ.set id (.cells (e + 1) sz (es.take n ++ ys))) ∧
    zz g (w.setRow (g.ρ id) (zdr arr (n * sz) vs)) (σ.set id (.cells (e + 1) sz (es.take n ++ ys))) (.own id (e + 1) 0 (n + ys.length)) (.slice a (n + ys.length) c):=by
 obtain ⟨a',Z,e1,e2,e3,e4⟩:=hu;injection e1 with e1 _ e1c;subst e1 e1c;have s : es.length ≠ 0:=fun h => y (List.eq_nil_of_length_eq_zero h);obtain ⟨f1,f2,arr,ty,f3,f4⟩:=e4 s;obtain ⟨v,O,f,r,z,S,q⟩:=R.ob id _ l y;rw [z] at f3;injection f3 with f3;injection f3 with f3 f3t;subst f3 f3t;have hm : (n + ys.length) * sz ≤ c * sz:=ya _ m;have d : n * sz + vs.length ≤ f.size:=by rw [B]; rw [yr] at hm; rw [yu] at f4; omega
 have N : g.ρ id < w.heap.size:=(yc.1 z).1
 have L:=replace (g':=g) (w':=w.setRow (g.ρ id) (zdr f (n * sz) vs)) (new:=.cells (e + 1) sz (es.take n ++ ys)) R l (fun b => b = g.ρ id) rfl rfl rfl (by simp)
  (fun b K V => ⟨setRow_other w _ _ _ V,rfl,fun _ h => h⟩)
  (fun b K => ⟨.inl (by rw [K]; exact v),rfl,fun o h => absurd (by rw [K] at h; exact h) (O o)⟩) (fun _ _ _ h => h) (fun _ _ => rfl) (fun _ _ _ => rfl) (fun b o h => by simpa using R.nb b o h)
  (fun Q Y P A => by
   rw [zu l] at A;injection A with A;injection A with hs1 hs2;injection hs2 with hs2 hs3
   exact .inr ⟨e + 1,_,by rw [zu (zD l),hs2],by omega⟩)
  (fun es' h => by cases h) (fun k n h => by simp [znR,l,Ob.fr] at h)
  (fun _ _ h => by cases h) (fun H M => by
   refine ⟨v,O,_,r,setRow_heap w _ _ _ _ _ z,?_,fun i x p => ?_⟩
   ·rw [zfV d,yb,yi,yt (by omega)]
    rw [yu] at f4;omega
   ·rw [ym] at p
    have U : (es.take n).length = n:=(by rw [yi]; omega);rw [U] at p
    by_cases ci : i < n
    ·rw [if_pos ci,List.getElem?_take,if_pos ci] at p
     refine ⟨(q i x p).1,fun j c t => ?_⟩;obtain ⟨u,E,D,G⟩:=(q i x p).2 j c t;have I : j < sz:=(by have:=zb t; have:=(q i x p).1; omega);exact ⟨u,by rw [zf8 d,if_pos (inside ci I)]; exact E,H.zz c u D,G⟩
    ·rw [if_neg ci] at p
     refine ⟨(J _ x p).1,fun j c t => ?_⟩;obtain ⟨u,E,D,G⟩:=(J _ x p).2 j c t;have I : j < sz:=(by have:=zb t; have:=(J _ x p).1; omega);have W:=inside (zb p) I
     have e1 : i * sz + j = n * sz + ((i - n) * sz + j):=by
      rw [yx];have : n * sz ≤ i * sz:=ya _ (yp ci);omega
     refine ⟨u,?_,H.zz c u D,G⟩;rw [zf8 d,if_neg (by omega),if_pos (by omega),e1,yg]
     simpa using E)
 obtain ⟨X,L⟩:=L;refine ⟨f,r,by simpa using f2 (by omega),z,d,X,L,?_⟩;simp only [zz];refine ⟨e + 1,sz,_,zu (zD l),yd _,fun _ => ⟨a,c,rfl,m,fun h => ?_,fun _ => ⟨?_,f2,zdr f (n * sz) vs,r,setRow_heap w _ _ _ _ _ z,?_⟩⟩,_,_,rfl⟩
 ·rw [yb,yi,yt (by omega)] at h
  omega
 ·rw [yb,yi,yt (by omega)]
  omega
 ·rw [zfV d]; exact f4
theorem zDG (R : Rel g w σ) {id a sz n c : Nat} {e : TypeId} {es ys : List (List C)} {us vs : List Value} {arr : Array Value} (f : σ[id]? = some (.cells a sz es)) (X : n ≤ es.length)
  (A : us.length = n * sz) (N : zci g w σ us.toArray sz (es.take n)) (S : vs.length = ys.length * sz) (M : zci g w σ vs.toArray sz ys) (r : n + ys.length ≤ c) (Y : 0 < n + ys.length)
  (l : ∃ rest,arr.toList = us ++ vs ++ rest) (s : arr.size = c * sz) :
  ∃ g',Ext g w σ g' (w.alloc (.cells arr e)) (σ.set id (.cells (a + 1) sz (es.take n ++ ys))) ∧
    Rel g' (w.alloc (.cells arr e)) (σ.set id (.cells (a + 1) sz (es.take n ++ ys))) ∧
    zz g' (w.alloc (.cells arr e)) (σ.set id (.cells (a + 1) sz (es.take n ++ ys))) (.own id (a + 1) 0 (n + ys.length)) (.slice (some ⟨w.heap.size,0,none⟩) (n + ys.length) c):=by
 obtain ⟨rest,l⟩:=l;have v:=zbu w (.cells arr e);have y : (es.take n).length = n:=by rw [yi]; omega
 let g' : G:=g.own id w.heap.size
 have I : ∀ b,b < w.heap.size → g'.ow b = g.ow b:=fun b p => zaQ g.ow (k:=w.heap.size) (i:=b) _ (by omega);have K : ∀ b,b < w.heap.size → zuO g w g' (w.alloc (.cells arr e)) b:=fun b p => ⟨heap_alloc_old w _ p,I b p,fun o h => h⟩
 have m : ∀ q u,(us ++ vs)[q]? = some u → arr[q]? = some u:=fun q u h => by
  rw [← yw,l,yf (zb h)];exact h
 have J:=replace (g':=g') (w':=w.alloc (.cells arr e)) (new:=.cells (a + 1) sz (es.take n ++ ys)) R f (fun _ => False) rfl rfl rfl (by rw [size_alloc]; omega)
  (fun b p _ => K b p) (fun b p => p.elim) (fun b1 O _ h => h) (fun j U => zaQ g.ρ (k:=id) (i:=j) _ U) (fun _ _ _ => rfl)
  (fun b1 O h => by rw [size_alloc]; have:=R.nb b1 O h; omega)
  (fun Q W P z => by
   rw [zu f] at z;injection z with z;injection z with hs1 hs2;injection hs2 with hs2 hs3
   exact .inr ⟨a + 1,_,by rw [zu (zD f),hs2],by omega⟩)
  (fun es' h => by cases h) (fun k n h => by simp [znR,f,Ob.fr] at h)
  (fun _ _ h => by cases h) (fun H L => by
   refine ⟨by simp [g',G.own],fun o h => absurd (R.nb _ _ (by simpa [g',G.own] using h)) (yy _),arr,e,by simpa [g',G.own] using v,?_,fun i x d => ?_⟩
   ·rw [s,yb,y]
    exact ya _ r
   ·rw [ym,y] at d
    by_cases ci : i < n
    ·rw [if_pos ci] at d
     refine ⟨(N i x d).1,fun j c r => ?_⟩;obtain ⟨u,D,B,E⟩:=(N i x d).2 j c r;refine ⟨u,m _ u ?_,H.zz c u B,E⟩;have t : us[i * sz + j]? = some u:=(by simpa using D);rw [yf (zb t)];exact t
    ·rw [if_neg ci] at d
     refine ⟨(M _ x d).1,fun j c r => ?_⟩;obtain ⟨u,D,B,E⟩:=(M _ x d).2 j c r;refine ⟨u,m _ u ?_,H.zz c u B,E⟩
     have e1 : i * sz + j = us.length + ((i - n) * sz + j):=by
      rw [A,yx];have : n * sz ≤ i * sz:=ya _ (yp ci);omega
     rw [e1,List.getElem?_append_right (by omega),yg]
     simpa using D)
 obtain ⟨V,J⟩:=J;refine ⟨g',V,J,?_⟩;simp only [zz];refine ⟨a + 1,sz,_,zu (zD f),yd _,fun _ => ⟨_,c,rfl,r,fun h => ?_,fun _ => ⟨?_,fun _ => by simp [g',G.own],arr,e,by simpa [g',G.own] using v,by rw [s,yu]; exact yd _⟩⟩,_,_,rfl⟩
 ·rw [yb,y] at h
  omega
 ·rw [yb,y]
  omega
theorem map_set (R : Rel g w σ) {id clock clock' : Nat} {es es' : List (Int × V)} {zbC ents' : Array MapEntry} (a : σ[id]? = some (.mp es)) (p : w.heap[g.ρ id]? = some (.map zbC clock))
  (hm : ∀ {g' : G} {w' : World} {σ' : zd},Ext g w σ g' w' σ' → zmq g' w' σ' es' ents'.toList clock') :
  Ext g w σ g { w with heap:=w.heap.setIfInBounds (g.ρ id) (.map ents' clock') } (σ.set id (.mp es')) ∧ Rel g { w with heap:=w.heap.setIfInBounds (g.ρ id) (.map ents' clock') } (σ.set id (.mp es')):=by
 obtain ⟨d,f,_,_,_,_⟩:=R.ob id _ a;have c : g.ρ id < w.heap.size:=(yc.1 p).1
 refine replace (g':=g) R a (fun b => b = g.ρ id) rfl rfl rfl (by simp) (fun b e l => ⟨?_,rfl,fun _ h => h⟩)
  (fun b e => ⟨.inl (by rw [e]; exact d),rfl,fun o h => absurd (by rw [e] at h; exact h) (f o)⟩) (fun _ _ _ h => h) (fun _ _ => rfl) (fun _ _ _ => rfl) (fun b o h => by simpa using R.nb b o h)
  (fun j r i q => by simp [shapeOf,a,Ob.shape] at q) (fun m h => ⟨rfl,es',rfl⟩) (fun k n h => by simp [znR,a,Ob.fr] at h)
  (fun _ _ h => by cases h) (fun H => ⟨d,f,ents',clock',?_,hm H⟩)
 ·simp only [ye]
  rw [if_neg (Ne.symm l)]
 ·simp only [ye]
  simp [c]
end
def zBQ : Value → Value → Bool
 | .bool a,.bool b => a == b
 | .int k a,.int k' b => decide (k = k') && decide (a = b)
 | .string a,.string b => decide (a = b)
 | .pointer none,.pointer none => true
 | .map none,.map none => true
 | .nilFunc,.nilFunc => true
 | .slice none 0 0,.slice none 0 0 => true
 | _,_ => false
theorem zvj {u v : Value} (h : zBQ u v = true) : u = v ∧ zzg v = true:=by
 unfold zBQ at h;split at h <;> simp_all [zzg]
def zxC : Value → C → Bool
 | .slice none 0 0,.f (.sl []) => true
 | v,.f (.lit v') => zBQ v v'
 | _,_ => false
def zf2 : List Value → List C → Bool
 | [],[] => true
 | v :: vs,c :: cs => zxC v c && zf2 vs cs
 | _,_ => false
def zq6 : Value → V → Bool
 | .agg us,.agg cs => zf2 us.toList cs
 | v,.one c => zxC v c
 | _,_ => false
section
variable {g : G} {w : World} {σ : zd}
theorem zo9 {v : Value} {c : C} (h : zxC v c = true) : zz g w σ c v ∧ v.oneCell' = true:=by
 unfold zxC at h;split at h
 ·refine ⟨?_,rfl⟩
  rw [zz,rep];exact ⟨none,0,0,rfl,yd _,by simp only [zb9],.inl rfl⟩
 ·obtain ⟨e,a⟩:=zvj h
  subst e;refine ⟨by rw [zz,rep]; exact ⟨rfl,a⟩,?_⟩;cases v <;> simp_all [zzg,Value.oneCell']
 ·cases h
theorem zaE : ∀ {vs : List Value} {cs : List C},zf2 vs cs = true → zw g w σ cs vs ∧ ∀ v ∈ vs,v.oneCell' = true
 | [],[],_ => by simp [zw]
 | v :: vs,c :: cs,h => by
   simp only [zf2,yj] at h;obtain ⟨d,a⟩:=zo9 (g:=g) (w:=w) (σ:=σ) h.1;obtain ⟨b,e⟩:=zaE h.2;refine ⟨by simp only [zw]; exact ⟨v,vs,rfl,d,b⟩,fun u hu => ?_⟩;rcases List.mem_cons.1 hu with rfl | hu
   ·exact a
   ·exact e u hu
 | [],_ :: _,h => by simp [zf2] at h
 | _ :: _,[],h => by simp [zf2] at h
theorem zge {v : Value} {x : V} (h : zq6 v x = true) : zf g w σ x v:=by
 unfold zq6 at h;split at h
 ·rename_i us cs
  simp only [zf];exact ⟨us,rfl,(zaE h).1⟩
 ·simp only [zf]
  exact (zo9 h).1
 ·cases h
end
def okX (κ : List Tmp) (loc : List (Option Tmp)) : Operand → X → Bool
 | .tmp t,.s i => κ[i]? == some t
 | .tmp t,.l d => loc[d]? == some (some t) && (loc.take d).all (· != some t)
 | .const v,.c x => zq6 v x
 | .func f,.c (.one (.fn f' [] [])) => f == f'
 | _,_ => false
structure Fr (κ : List Tmp) (loc : List (Option Tmp)) (nt : Nat) (g : G) (w : World) (r : R) (a : Act) : Prop where
 size : a.tmps.size = nt
 len : r.env.length = κ.length
 env : ∀ (i : Nat) (t : Tmp),κ[i]? = some t → zf g w r.st (r.env.getD i vun) (a.tmps.getD t undef)
 lc : ∀ (d : Nat) (t : Tmp),loc[d]? = some (some t) → (loc.take d).all (· != some t) = true → zf g w r.st (r.rs.getD d vun) (a.tmps.getD t undef)
 lk : ∀ (d : Nat) (t : Tmp),loc[d]? = some (some t) → t ∉ κ
 nd : κ.Nodup
 bd : ∀ t ∈ κ,t < nt
 df : a.defers = []
section
variable {κ : List Tmp} {loc : List (Option Tmp)} {nt : Nat} {g : G} {w : World} {r : R} {a : Act}
theorem Fr.get (F : Fr κ loc nt g w r a) {x : Operand} {y : X} (h : okX κ loc x y = true) : zf g w r.st (r.get y) (a.eval x):=by
 unfold okX at h;split at h
 ·exact F.env _ _ (by simpa using h)
 ·simp only [yj,beq_iff_eq] at h
  exact F.lc _ _ h.1 h.2
 ·exact zge h
 ·rename_i f f'
  have e : f = f':=by simpa using h
  subst e;simp only [R.get,Act.eval,zf,zz];exact ⟨_,_,rfl,by simp [zw],by simp [zw]⟩
 ·cases h
theorem Fr.ext {g' : G} {w' : World} {r' : R} (F : Fr κ loc nt g w r a) (H : Ext g w r.st g' w' r'.st) (he : r'.env = r.env) (b : r'.rs = r.rs) : Fr κ loc nt g' w' r' a :=
 ⟨F.size,by rw [he]; exact F.len,fun i t h => by rw [he]; exact H.zf _ _ (F.env i t h),fun d t h c => by rw [b]; exact H.zf _ _ (F.lc d t h c),F.lk,F.nd,F.bd,F.df⟩
def okD (κ : List Tmp) (nt : Nat) : Option Tmp → D → Bool
 | none,.no => true
 | some t,.loc => !κ.contains t && decide (t < nt)
 | some t,.slot i => κ[i]? == some t
 | _,_ => false
def zbg : Option Tmp → D → Option Tmp
 | some t,.loc => some t
 | _,_ => none
theorem zis {a : Array Value} {t b : Nat} {u : Value} : (a.setIfInBounds t u).getD b undef = if t = b ∧ t < a.size then u else a.getD b undef:=by
 simp only [Array.getD_eq_getD_getElem?,ye]
 by_cases h : t = b
 ·subst h
  by_cases c : t < a.size <;> simp [c]
 ·simp [h]
theorem ziR {α : Type} (x : α) (l : List α) (d : Nat) (z : α) : (x :: l).getD (d + 1) z = l.getD d z:=by simp
theorem Fr.put (F : Fr κ loc nt g w r a) {t : Option Tmp} {d : D} (h : okD κ nt t d = true) {v : V} {u : Value} (q : d ≠ .no → zf g w r.st v u) : Fr κ (zbg t d :: loc) nt g w (r.put d v) (a.put t u):=by
 unfold okD at h;split at h
 ·
  refine ⟨F.size,F.len,F.env,fun c f b k => ?_,fun c f b => ?_,F.nd,F.bd,F.df⟩
  ·cases c with
   | zero => simp [zbg] at b
   | succ c =>
     simp only [R.put,ziR];exact F.lc c f (by simpa using b) (by simpa [yh,zbg] using k)
  ·cases c with
   | zero => simp [zbg] at b
   | succ c => exact F.lk c f (by simpa using b)
 ·
  rename_i t;simp only [yj,Bool.not_eq_true',decide_eq_true_eq] at h;have s : t ∉ κ:=by simpa using h.1
  have n : t < a.tmps.size:=by rw [F.size]; exact h.2
  refine ⟨by simp [Act.put,F.size],F.len,fun i f b => ?_,fun c f b k => ?_,fun c f b => ?_,F.nd,F.bd,F.df⟩
  ·have j : t ≠ f:=fun e => s (by rw [e]; exact yn b)
   simp only [Act.put,zis,j,false_and,if_false];exact F.env i f b
  ·cases c with
   | zero =>
     simp [zbg] at b;subst b;simp only [Act.put,zis,n,and_self,if_true];exact q (by simp)
   | succ c =>
     have j : t ≠ f:=fun e => by
      subst e;simp [yh,zbg] at k
     simp only [Act.put,zis,j,false_and,if_false,R.put,ziR];refine F.lc c f (by simpa using b) ?_;rw [yh,yz,yj] at k;exact k.2
  ·cases c with
   | zero => simp [zbg] at b; subst b; exact s
   | succ c => exact F.lk c f (by simpa using b)
 ·
  rename_i t i;have l : κ[i]? = some t:=by simpa using h
  have n : t < a.tmps.size:=by rw [F.size]; exact F.bd t (yn l)
  have p : i < r.env.length:=by rw [F.len]; exact zb l
  refine ⟨by simp [Act.put,F.size],by simp [R.put,F.len],fun o f b => ?_,fun c f b k => ?_,fun c f b => ?_,F.nd,F.bd,F.df⟩
  ·simp only [Act.put,zis,R.put,yo,yk]
   by_cases e : t = f
   ·subst e
    have : i = o:=(List.getElem?_inj (zb l) F.nd).1 (l.trans b.symm);subst this;simp only [n,and_self,if_true,p,Option.getD_some];exact q (by simp)
   ·have : i ≠ o:=fun x => e (by subst x; rw [l] at b; injection b)
    simp only [e,false_and,if_false,this];have:=F.env o f b
    rwa [yo] at this
  ·cases c with
   | zero => simp [zbg] at b
   | succ c =>
     have m : loc[c]? = some (some f):=(by simpa using b);have j : t ≠ f:=fun e => F.lk c f m (by rw [← e]; exact yn l);simp only [Act.put,zis,j,false_and,if_false,R.put,ziR];refine F.lc c f m ?_;rw [yh,yz,yj] at k;exact k.2
  ·cases c with
   | zero => simp [zbg] at b
   | succ c => exact F.lk c f (by simpa using b)
 ·cases h
end
def zjM (P : Program) (t : TypeId) : Option Nat:=(P.info? t).map (·.size)
def zmv (P : Program) (t : TypeId) : Option Bool:=(P.underlying t).map fun d => match d with
 | .struct _ | .array _ _ => true
 | _ => false
section
variable {P : Program} {κ : List Tmp} {loc : List (Option Tmp)} {nt : Nat} {g : G} {w : World} {r r' : R} {a : Act} {o : Go.Oper} {d : D} {next : Act → World → Prop} {Q : Exit → Act → World → Prop}
theorem zm8 {u : Value} {w' : World} (h : (execOp a.eval o).run P w = .ok (.value u) w') (k : next (a.put o.dst u) w') : o.wp P a w next Q:=by
 unfold Oper.wp;rw [h];exact k
theorem zCL {w' : World} (h : (execOp a.eval o).run P w = .ok .skip w') (k : next (a.put o.dst undef) w') : o.wp P a w next Q:=by
 unfold Oper.wp;rw [h];exact k
theorem zfH (r : R) (d : D) (v : V) : (r.put d v).st = r.st:=by cases d <;> rfl
theorem zQ {σ : zd} {v u : Value} (h : zf g w σ (.one (.f (.lit v))) u) : u = v ∧ zzg v = true:=by
 simpa only [zf,zz,rep] using h
theorem zY {σ : zd} {v : Value} (h : zzg v = true) : zf g w σ (.one (.f (.lit v))) v:=by
 rw [zf,zz,rep];exact ⟨rfl,h⟩
theorem zrm (op : BinOp) (t : TypeId) (x y : Operand) (e : TypeId) (c : o.op = .binOp op t x y e) {k b : IntKind} {m n : Int} (d : a.eval x = .int k m) (f : a.eval y = .int b n) :
  (execOp a.eval o).run P w = ((do let v ← binOp op t (.int k m) (.int b n); pure (Next.value v) : Sem Next)).run P w:=by
 unfold execOp;simp only [c,d,f,eqGuard];cases op <;> simp
theorem zxU {op : BinOp} {t : TypeId} {x y : Operand} {f : TypeId} (l : o.op = .binOp op t x y f) {j i v : V} (s : zf g w r.st j (a.eval x)) (p : zf g w r.st i (a.eval y)) (h : zHk op j i = some v) :
  ∃ u,(execOp a.eval o).run P w = .ok (.value u) w ∧ zf g w r.st v u:=by
 unfold zHk at h;split at h
 ·rename_i k m z n
  obtain ⟨ex,_⟩:=zQ s;obtain ⟨ey,_⟩:=zQ p;rw [zrm op t x y f l ex ey];split at h
  ·rename_i c
   unfold zzB at h;split at h
   ·rename_i b
    have d : ¬ n < 0:=by omega
    cases op <;> simp [ztD] at c <;> simp only [Option.some.injEq] at h <;> subst h <;>
     exact ⟨_,by simp [binOp,Op.shift,d],zY rfl⟩
   ·cases h
  ·rename_i c
   split at h
   ·rename_i q
    subst q;unfold zHv at h;cases op <;> simp [ztD] at c <;> simp only at h
    case quo =>
     split at h
     ·cases h
     ·rename_i b
      injection h with h;subst h;exact ⟨_,by simp [binOp,Op.intDiv,b],zY rfl⟩
    case rem =>
     split at h
     ·cases h
     ·rename_i b
      injection h with h;subst h;exact ⟨_,by simp [binOp,Op.intDiv,b],zY rfl⟩
    case andNot => cases h
    all_goals
     injection h with h;subst h;refine ⟨_,?_,zY rfl⟩;simp [binOp,Op.intArith,Op.intBits,Op.intCmp]
    all_goals (by_cases e : m = n <;> simp [e])
   ·cases h
 ·cases h
theorem zsX {x : Operand} (b : o.op = .move x ∨ o.op = .assign x) : (execOp a.eval o).run P w = .ok (.value (a.eval x)) w:=by
 unfold execOp;rcases b with b | b <;> simp [b]
theorem zxJ {c x y : Operand} (f : o.op = .pick c x y) {d e b v : V} (j : zf g w r.st d (a.eval c)) (i : zf g w r.st e (a.eval x)) (k : zf g w r.st b (a.eval y)) (h : zD2 e b d = some v) :
  ∃ u,(execOp a.eval o).run P w = .ok (.value u) w ∧ zf g w r.st v u:=by
 unfold zD2 at h;split at h
 ·rename_i t
  obtain ⟨ec,_⟩:=zQ j;injection h with h;subst h;refine ⟨if t then a.eval x else a.eval y,?_,?_⟩
  ·unfold execOp
   simp [f,ec,asBool]
  ·cases t
   ·simpa using k
   ·simpa using i
 ·cases h
theorem zzP {op : UnOp} {t : TypeId} {x : Operand} (b : o.op = .unOp op t x) {c v : V} (d : zf g w r.st c (a.eval x)) (h : aun op c = some v) :
  ∃ u,(execOp a.eval o).run P w = .ok (.value u) w ∧ zf g w r.st v u:=by
 unfold aun at h;split at h
 ·obtain ⟨ex,_⟩:=zQ d
  injection h with h;subst h;exact ⟨_,by unfold execOp; simp [b,ex,Op.unary],zY rfl⟩
 ·obtain ⟨ex,_⟩:=zQ d
  injection h with h;subst h;exact ⟨_,by unfold execOp; simp [b,ex,Op.unary,Op.intArith],zY rfl⟩
 ·cases h
theorem zyK {k : IntKind} {s t : TypeId} {x : Operand} (d : o.op = .convert s t x) (b : (P.underlying s).isSome = true) (f : P.underlying t = some (.int k)) {c v : V} (e : zf g w r.st c (a.eval x)) (h : zC3 k c = some v) :
  ∃ u,(execOp a.eval o).run P w = .ok (.value u) w ∧ zf g w r.st v u:=by
 unfold zC3 at h;split at h
 ·obtain ⟨ex,_⟩:=zQ e
  injection h with h;subst h;obtain ⟨ds,b⟩:=Option.isSome_iff_exists.1 b;exact ⟨_,by unfold execOp; simp [d,ex,convert,run_underlying b,run_underlying f,Conv.intToInt],zY rfl⟩
 ·cases h
theorem zs4 {σ : zd} {xs : List (List Fz)} {u : Value} (h : zf g w σ (.one (.f (.sl xs))) u) : rep w g.N (.sl xs) u:=by simpa only [zf,zz] using h
theorem ztC {σ : zd} {t k : Nat} {xs : List (List Fz)} {u : Value} (h : zf g w σ (.one (.ap t k xs)) u) : rep w g.N (.sl xs) u:=by
 simp only [zf,zz] at h;exact h.1
theorem zkB {N : zgU} {xs : List (List Fz)} {u : Value} (h : rep w N (.sl xs) u) : ∃ a c,u = .slice a xs.length c ∧ xs.length ≤ c:=by
 simp only [rep] at h;obtain ⟨a,c,_,e,b,_⟩:=h;exact ⟨a,c,e,b⟩
theorem zhl {σ : zd} {id b lo n : Nat} {u : Value} (h : zf g w σ (.one (.own id b lo n)) u) {sz : Nat} {es : List (List C)} (e : σ[id]? = some (.cells b sz es)) : zBX w (g.ρ id) sz es.length lo n u:=by
 simp only [zf,zz] at h;obtain ⟨v0,c,len,a,_,d,_⟩:=h;rw [zu e] at a;injection a with a;injection a with e1 a;injection a with e2 e3;subst e1 e2 e3;exact d rfl
theorem zyz {σ : zd} {v : V} {u : Value} {n : V} (h : zf g w σ v u) (a : zGS v = some n) : ∃ b k c,u = .slice b k c ∧ n = zCW .i64 k:=by
 unfold zGS at a;split at a
 ·simp only [zf,zz] at h
  obtain ⟨_,_,_,_,_,_,b,c,e⟩:=h;injection a with a;exact ⟨b,_,c,e,a.symm⟩
 ·obtain ⟨b,d,e,_⟩:=zkB (zs4 h)
  injection a with a;exact ⟨b,_,d,e,a.symm⟩
 ·obtain ⟨b,d,e,_⟩:=zkB (ztC h)
  injection a with a;exact ⟨b,_,d,e,a.symm⟩
 ·cases a
theorem zBd {t : TypeId} {x : Operand} {c : Go.Call} (j : o.op = .call c) (m : c.callee = .builtin .len) (f : c.args = #[x]) (d : c.argTypes = #[t]) {e : TypeId} (n : P.underlying t = some (.slice e))
  {i v : V} (l : zf g w r.st i (a.eval x)) (h : zGS i = some v) :
  ∃ u,(execOp a.eval o).run P w = .ok (.value u) w ∧ zf g w r.st v u:=by
 obtain ⟨b,k,p,e,rfl⟩:=zyz l h;refine ⟨.int .i64 k,?_,zY rfl⟩;unfold execOp;simp [j,resolve,m,f,d,e,invoke,builtin,Builtin.len_,run_underlying n,goInt]
theorem zwg {t : TypeId} {fs : Array Field} {i : Nat} {f : Field} {ad : Addr} {n : Nat} (g : P.underlying t = some (.struct fs)) (d : fs[i]? = some f) (c : zjM P f.type = some n) (e : n ≠ 0) :
  (Instr.fieldAt t (.pointer (some ad)) i).run P w = .ok (.pointer (some (ad.add f.offset))) w:=by
 unfold zjM at c
 cases b : P.info? f.type with
 | none => simp [b] at c
 | some inf =>
   have a : inf.size = n:=(by simpa [b] using c);simp [Instr.fieldAt,run_underlying g,d,Instr.sureAddr,fieldPlace,sizeOf,typeInfo,b,a,e]
theorem zaR (b o j : Nat) : (⟨b,o,none⟩ : Addr).add j = ⟨b,o + j,none⟩:=by unfold Addr.add; split <;> simp_all
theorem zCK {t : TypeId} {x : Operand} {i n off : Nat} {fs : Array Field} {f : Field} (q : o.op = .fieldAddr t x i) (s : P.underlying t = some (.struct fs)) (A : fs[i]? = some f) (E : zjM P f.type = some n) (B : n ≠ 0) (c : f.offset = off)
  {p v : V} (d : zf g w r.st p (a.eval x)) (h : afa off p = some v) :
  ∃ u,(execOp a.eval o).run P w = .ok (.value u) w ∧ zf g w r.st v u:=by
 have key : ∀ ad,a.eval x = .pointer (some ad) → (execOp a.eval o).run P w = .ok (.value (.pointer (some (ad.add off)))) w:=fun ad e => by
  unfold execOp;simp only [q,e];simp [zwg (w:=w) (ad:=ad) s A E B,c]
 unfold afa at h;split at h
 ·rename_i id C j z
  injection h with h;subst h;simp only [zf,zz] at d;obtain ⟨v0,sz,len,k,l,y,ad,m⟩:=d;refine ⟨_,key ad m,?_⟩;simp only [zf,zz];refine ⟨v0,sz,len,k,l,fun e => ?_,_,rfl⟩;have:=y e;rw [m] at this;injection this with this;injection this with this;rw [this,zaR,yq]
 ·rename_i cs z
  injection h with h;subst h;simp only [zf,zz] at d;obtain ⟨b,D,k,l⟩:=d;refine ⟨_,key _ k,?_⟩;simp only [zf,zz];exact ⟨b,D,by rw [zaR,yq],l⟩
 ·cases h
theorem zpO {t e : TypeId} {k : IntKind} {n : Int} {ad : Addr} {len cap sz : Nat} (f : P.underlying t = some (.slice e)) (c : zjM P e = some sz) (d : 0 ≤ n) (g : n < len) :
  (Instr.indexAt t (.slice (some ad) len cap) (.int k n)).run P w = .ok (.pointer (some (ad.add (n.toNat * sz)))) w:=by
 unfold zjM at c
 cases b : P.info? e with
 | none => simp [b] at c
 | some inf =>
   have a : inf.size = sz:=(by simpa [b] using c);simp [Instr.indexAt,asIntOf,run_underlying f,d,g,sizeOf,typeInfo,b,a]
theorem zrq {t e : TypeId} {k : IntKind} {n : Int} {ad : Addr} {len sz : Nat} (f : P.underlying t = some (.array len e)) (c : zjM P e = some sz) (d : 0 ≤ n) (g : n < len) :
  (Instr.indexAt t (.pointer (some ad)) (.int k n)).run P w = .ok (.pointer (some (ad.add (n.toNat * sz)))) w:=by
 unfold zjM at c
 cases b : P.info? e with
 | none => simp [b] at c
 | some inf =>
   have a : inf.size = sz:=(by simpa [b] using c);simp [Instr.indexAt,asIntOf,run_underlying f,d,g,sizeOf,typeInfo,b,a,Instr.sureAddr]
theorem zlv {a sz : Nat} {b : Ob} (h : b.isRow a sz = true) : ∃ es,b = .cells a sz es:=by
 unfold Ob.isRow at h;split at h
 ·simp at h
  obtain ⟨rfl,rfl⟩:=h;exact ⟨_,rfl⟩
 ·cases h
theorem zuw {t e : TypeId} {x i : Operand} {sz : Nat} (s : o.op = .indexAddr t x i) (y : P.underlying t = some (.slice e)) (B : zjM P e = some sz) {xs : List (List Fz)} {k : IntKind} {n : Int} (q : rep w g.N (.sl xs) (a.eval x)) (A : a.eval i = .int k n)
  {v : V} (C : 0 ≤ n) (h : (xs[n.toNat]?).bind (zGn sz) = some v) : ∃ u,(execOp a.eval o).run P w = .ok (.value u) w ∧ zf g w r.st v u:=by
 rw [yv] at h;obtain ⟨el,j,f⟩:=h;unfold zGn at f;split at f
 ·rename_i m
  injection f with f;subst f;simp only [rep] at q;obtain ⟨ad,c,d,e1,e2,e3,e4⟩:=q;rcases e4 with rfl | ⟨b,p,rfl,e4⟩
  ·simp at j
  ·have z:=zb j
   have l : d = sz:=(by rw [← zcb e3 j,m]);subst l;refine ⟨.pointer (some ⟨b,p + n.toNat * d,none⟩),?_,?_⟩
   ·unfold execOp
    simp only [s,e1,A];simp [zpO (w:=w) (ad:=⟨b,p,none⟩) (cap:=c) y B C (by omega : n < (xs.length : Int)),zaR]
   ·simp only [vfp,zf,zz]
    exact ⟨b,p + n.toNat * d,rfl,zf1 e4 j⟩
 ·cases f
theorem zCJ {t e : TypeId} {x i : Operand} {sz : Nat} (j : o.op = .indexAddr t x i) (l : P.underlying t = some (.slice e)) (z : zjM P e = some sz)
  {C B v : V} (q : zf g w r.st C (a.eval x)) (y : zf g w r.st B (a.eval i)) (h : aia r.st sz C B = some v) :
  ∃ u,(execOp a.eval o).run P w = .ok (.value u) w ∧ zf g w r.st v u:=by
 unfold aia at h;split at h
 ·rename_i id s lo n k m
  obtain ⟨ei,_⟩:=zQ y;split at h
  ·rename_i hm
   rw [yv] at h;obtain ⟨D,A,b⟩:=h;unfold zu6 at b;split at b
   ·rename_i d
    injection b with b;subst b;obtain ⟨es,rfl⟩:=zlv d;obtain ⟨ad,c,e1,e2,e3,e4⟩:=zhl q A;have p : es.length ≠ 0:=fun f => by have:=e3 f; omega
    obtain ⟨f1,f2,_⟩:=e4 p;have f3:=f2 (by omega);subst f3;refine ⟨.pointer (some ⟨g.ρ id,lo * sz + m.toNat * sz,none⟩),?_,?_⟩
    ·unfold execOp
     simp only [j,e1,ei];simp [zpO (w:=w) (ad:=⟨g.ρ id,lo * sz,none⟩) (cap:=c) l z hm.1 hm.2,zaR]
    ·simp only [zf,zz]
     exact ⟨s,sz,es.length,zu A,yd _,fun _ => by rw [yr,Nat.add_zero],_,rfl⟩
   ·cases b
  ·cases h
 ·obtain ⟨ei,_⟩:=zQ y
  split at h
  ·rename_i f
   exact zuw j l z (zs4 q) ei f h
  ·cases h
 ·obtain ⟨ei,_⟩:=zQ y
  split at h
  ·rename_i f
   exact zuw j l z (ztC q) ei f h
  ·cases h
 ·cases h
theorem zzG {t e : TypeId} {x i : Operand} {len sz : Nat} (y : o.op = .indexAddr t x i) (z : P.underlying t = some (.array len e)) (D : zjM P e = some sz)
  {s n v : V} (d : zf g w r.st s (a.eval x)) (q : zf g w r.st n (a.eval i)) (h : zHe len sz s n = some v) :
  ∃ u,(execOp a.eval o).run P w = .ok (.value u) w ∧ zf g w r.st v u:=by
 have key : ∀ ad k m,a.eval x = .pointer (some ad) → a.eval i = .int k m → 0 ≤ m ∧ m < len → (execOp a.eval o).run P w = .ok (.value (.pointer (some (ad.add (m.toNat * sz))))) w:=fun ad k m e B hm => by
  unfold execOp;simp only [y,e,B];simp [zrq (w:=w) (ad:=ad) z D hm.1 hm.2]
 unfold zHe at h;split at h
 ·obtain ⟨ei,_⟩:=zQ q
  split at h
  ·rename_i hm
   injection h with h;subst h;simp only [zf,zz] at d;obtain ⟨v0,l,c,f,j,A,ad,p⟩:=d;refine ⟨_,key ad _ _ p ei hm,?_⟩;simp only [zf,zz];refine ⟨v0,l,c,f,j,fun e => ?_,_,rfl⟩;have:=A e;rw [p] at this;injection this with this;injection this with this;rw [this,zaR,yq]
  ·cases h
 ·obtain ⟨ei,_⟩:=zQ q
  split at h
  ·rename_i hm
   injection h with h;subst h;simp only [zf,zz] at d;obtain ⟨b,C,f,j⟩:=d;refine ⟨_,key _ _ _ f ei hm,?_⟩;simp only [zf,zz];exact ⟨b,C,by rw [zaR,yq],j⟩
  ·cases h
 ·cases h
end
end Go.A

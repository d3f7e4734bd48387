/- A part of the proof of SchedDepth. Conditions: none. -/
import Derived.Test.YtmkncmffaaninaaGreatDAB
import Derived.Orders
import Derived.Laws.Entries
import Derived.Laws.Small
import Derived.ChangeKeysEq
set_option linter.unusedVariables false
set_option linter.unusedSimpArgs false
set_option linter.unusedSectionVars false
open Nat renaming mul_le_mul_right → ya,le_refl → yd,add_sub_cancel_left → yg,le_of_not_lt → yp,add_assoc → yq,add_mul → yr,min_eq_left → yu,zero_add → yv,sub_mul → yy,lt_irrefl → yz
open List renaming length_append → yb,getElem?_append_left → yf,take_succ_cons → yh,length_take → yi,getElem?_set → yk,getElem?_set_ne → yl,getElem?_append → ym,mem_of_getElem? → yn,getD_eq_getElem?_getD → yo,all_cons → yA
open Array renaming getElem?_eq_some_iff → yc,getElem?_setIfInBounds → ye,getElem?_toList → yx
open Bool renaming and_eq_true → yj
open Option renaming bind_eq_some_iff → yw
namespace Go.A
section
variable {g : G} {w : World} {σ : zd}
theorem zkL {w : World} {b i : Nat} {arr arr' : Array Value} {t : TypeId} (h : w.heap[b]? = some (.cells arr t (0,0))) : (w.setRow b arr').cell? ⟨b,i,none⟩ = arr'[i]?:=cell_setRow_same w b i arr arr' t (0,0) h
theorem zgX {w : World} {b i : Nat} {arr : Array Value} {t : TypeId} {fr : Nat × Nat} (h : w.heap[b]? = some (.cells arr t fr)) : w.cell? ⟨b,i,none⟩ = arr[i]?:=by simp [World.cell?,h]
theorem zqJ {g' : G} {w' : World} {t k n sz : Nat} {fr : List Nat} (R : Rel g w σ) (ht : σ[t]? = some (.tok sz fr)) (htv : ∀ k',k' ≠ k → g'.tv t k' = g.tv t k') (hst : ∀ b k',b < w.heap.size → g.ow b = .tk t k' → k' ≠ k → ztk g w g' w' b)
  (hk : ∀ n',(fr.set k n)[k]? = some n' → (n' = 0 ∧ ∃ a,g'.tv t k = .slice a 0 0) ∨
   ∃ b o c arr ty,g'.tv t k = .slice (some ⟨b,o,none⟩) n' c ∧ 0 < c ∧ n' ≤ c ∧ g'.ow b = .tk t k ∧ w'.heap[b]? = some (.cells arr ty (0,0)) ∧ o + c * sz ≤ arr.size ∧ ∀ o',g'.N b o' → o' < o + n' * sz) : zAt g' w' (σ.set t (.tok sz (fr.set k n))) t (.tok sz (fr.set k n)):=by
 intro k' n' h
 by_cases e : k' = k
 ·subst e; exact hk n' h
 ·rw [yl (Ne.symm e)] at h
  rw [htv k' e]
  rcases R.ob t _ ht k' n' h with h | ⟨b,o,c,arr,ty,h1,h2,h3,h4,h5,h6,h7⟩
  ·exact .inl h
  ·obtain ⟨k1,k2,k3⟩:=hst b k' (yc.1 h5).1 h4 e
   exact .inr ⟨b,o,c,arr,ty,h1,h2,h3,k2.trans h4,k1.trans h5,h6,fun o' ho' => h7 o' (k3 o' ho')⟩
theorem ziA {t k n n' sz : Nat} {fr : List Nat} (ht : σ[t]? = some (.tok sz fr)) (hn : fr[k]? = some n) : zlw (σ.set t (.tok sz (fr.set k n'))) t k = some n':=by
 refine zdD (zx ht) ?_
 rw [yk]
 simp [zb hn]
theorem zBO (R : Rel g w σ) {t k sz b o c : Nat} {fr : List Nat} {xs ys : List (List Fz)} {vs : List Value} (ht : σ[t]? = some (.tok sz fr)) (hn : fr[k]? = some xs.length) (hu : g.tv t k = .slice (some ⟨b,o,none⟩) xs.length c)
  (hx0 : 0 < xs.length + ys.length) (hx : rep w g.N (.sl xs) (.slice (some ⟨b,o,none⟩) xs.length c)) (hsx : zbO sz xs) (hy : Lay w g.N sz ys vs) (hroom : xs.length + ys.length ≤ c) :
  ∃ arr ty g',w.heap[b]? = some (.cells arr ty (0,0)) ∧ o + xs.length * sz + vs.length ≤ arr.size ∧
    Ext g w σ g' (w.setRow b (zcS arr (o + xs.length * sz) vs)) (σ.set t (.tok sz (fr.set k (xs.length + ys.length)))) ∧
    Rel g' (w.setRow b (zcS arr (o + xs.length * sz) vs)) (σ.set t (.tok sz (fr.set k (xs.length + ys.length)))) ∧
    zw g' (w.setRow b (zcS arr (o + xs.length * sz) vs)) (σ.set t (.tok sz (fr.set k (xs.length + ys.length)))) (.ap t k (xs ++ ys)) (.slice (some ⟨b,o,none⟩) (xs.length + ys.length) c):=by
 have htok:=R.ob t _ ht k _ hn
 rcases htok with ⟨h0,a0,ha0⟩ | ⟨b',o',c',arr,ty,h1,_,h3,h4,h5,h6,h7⟩
 ·rw [hu] at ha0
  injection ha0 with _ _ ha0
  omega
 rw [hu] at h1
 injection h1 with h1 _ h1c
 injection h1 with h1
 injection h1 with h1a h1b
 subst h1a h1b h1c
 have hm : (xs.length + ys.length) * sz ≤ c * sz:=ya _ hroom
 rw [yr] at hm
 have hfit : o + xs.length * sz + vs.length ≤ arr.size:=by rw [hy.1]; omega
 have hblt : b < w.heap.size:=(yc.1 h5).1
 let g' : G:={ g.setTv t k (.slice (some ⟨b,o,none⟩) (xs.length + ys.length) c) with N:=fun b1 o1 => g.N b1 o1 ∨ (b1 = b ∧ o + xs.length * sz ≤ o1 ∧ o1 < o + (xs.length + ys.length) * sz) }
 have hcell : ∀ o1,g.N b o1 → (w.setRow b (zcS arr (o + xs.length * sz) vs)).cell? ⟨b,o1,none⟩ = w.cell? ⟨b,o1,none⟩:=fun o1 h => by
  rw [zkL h5,zgX h5,zfh hfit,if_pos (h7 o1 h)]
 have HR:=replace (g':=g') (w':=w.setRow b (zcS arr (o + xs.length * sz) vs)) (new:=.tok sz (fr.set k (xs.length + ys.length))) R ht (fun b1 => b1 = b) rfl rfl rfl (by simp)
  (fun b1 hb1 hne => ⟨setRow_other w _ _ _ hne,rfl,fun o1 h => h.elim id fun h => absurd h.1 hne⟩)
  (fun b1 hb1 => ⟨.inr ⟨k,by rw [hb1]; exact h4⟩,rfl,fun o1 h => ⟨.inl h,by subst hb1; exact hcell o1 h⟩⟩)
  (fun b1 o1 _ h => .inl h) (fun _ _ => rfl) (fun j k' hj => G.setTv_ne g _ (by simp [hj])) (fun b1 o1 h => by
   rw [setRow_size]
   rcases h with h | h
   ·exact R.nb b1 o1 h
   ·rw [h.1]; exact hblt)
  (fun ver' sz' len' hs => by simp [shapeOf,ht,Ob.shape] at hs) (fun es h => by cases h)
  (fun k' n' h => by
   by_cases e : k' = k
   ·subst e
    rw [zdD ht hn] at h
    injection h with h
    subst h
    refine ⟨_,ziA ht hn,by omega,fun e => ?_⟩
    have : ys.length = 0:=by omega
    show (g.setTv t k' _).tv t k' = _
    rw [G.setTv_same,hu,this]
    rfl
   ·obtain ⟨sz1,fr1,k1,k2⟩:=zcX h
    rw [ht] at k1
    injection k1 with k1
    injection k1 with k1 k1'
    subst k1 k1'
    exact ⟨n',zdD (zx ht) (by rw [yl (Ne.symm e)]; exact k2),yd _,fun _ => G.setTv_ne g _ (by simp [e])⟩)
  (fun _ _ h => by injection h with h _; exact ⟨_,by rw [h]⟩)
  (fun H => zqJ R ht (fun k' e => G.setTv_ne g _ (by simp [e]))
   (fun b1 k' hb1 how hk' => ⟨setRow_other w _ _ _ (fun e => by subst e; rw [h4] at how; injection how with _ how; exact hk' how.symm),rfl,fun o1 h => h.elim id fun h => by
    exfalso
    rw [h.1,h4] at how
    injection how with _ how
    exact hk' how.symm⟩)
   (fun n' hn' => by
    rw [yk] at hn'
    simp [zb hn] at hn'
    subst hn'
    exact .inr ⟨b,o,c,_,ty,G.setTv_same _ _ _ _,by omega,hroom,h4,setRow_heap w _ _ _ _ _ h5,by rw [ze8 hfit]; exact h6,fun o1 h => by
     rcases h with h | h
     ·have:=h7 o1 h
      rw [yr]
      omega
     ·exact h.2.2⟩))
 obtain ⟨HE,HR⟩:=HR
 refine ⟨arr,ty,g',h5,hfit,HE,HR,?_⟩
 simp only [zw]
 have hl : zbO sz (xs ++ ys):=zdm fun e he => by
  rcases List.mem_append.1 he with he | he
  ·exact zfm hsx e he
  ·exact zfm hy.2.1 e he
 refine ⟨?_,xs.length + ys.length,ziA ht hn,by simp,fun _ => (G.setTv_same _ _ _ _).symm,sz,zce (zx ht),hl⟩
 have:=zvI (w:=w.setRow b (zcS arr (o + xs.length * sz) vs)) (N:=g'.N) (b:=b) (o:=o) (c:=c) hl (by simpa using hroom) (zey fun i e hi => ?_)
 ·simpa using this
 ·rw [ym] at hi
  by_cases ci : i < xs.length
  ·rw [if_pos ci] at hi
   simp only [rep] at hx
   obtain ⟨a1,c1,sz1,e1,e2,e3,e4⟩:=hx
   rcases e4 with e4 | ⟨b1,o1,e4,e5⟩
   ·rw [e4] at ci; simp at ci
   ·injection e1 with e1 _ e1c
    rw [e4] at e1
    injection e1 with e1
    injection e1 with e1a e1b
    subst e1a e1b
    have hszz : sz1 = sz:=by rw [← zbQ e3 hi,zbQ hsx hi]
    subst hszz
    exact zfe HE.keeps _ _ _ (zfb e5 hi)
  ·rw [if_neg ci] at hi
   refine zf6 fun j x hj => ?_
   obtain ⟨u,k1,k2,_⟩:=hy.2.2 _ e hi j x hj
   have hlt:=inside (zb hi) (by have:=zb hj; have:=zbQ hy.2.1 hi; omega : j < sz)
   have e1 : o + i * sz + j = o + xs.length * sz + ((i - xs.length) * sz + j):=by
    rw [yy]
    have : xs.length * sz ≤ i * sz:=ya _ (yp ci)
    omega
   refine ⟨u,.inr ⟨rfl,by omega,by rw [yr]; omega⟩,?_,zb5 HE.keeps x u k2⟩
   rw [zkL h5,zfh hfit,if_neg (by omega),if_pos (by rw [hy.1]; omega),e1,yg]
   exact k1
theorem drawn (R : Rel g w σ) (m : Nat) : Ext g w σ g (w.drewN m) σ ∧ Rel g (w.drewN m) σ:=by
 have H : Ext g w σ g (w.drewN m) σ:={
  os:=rfl
  tape:=rfl
  output:=rfl
  size:=yd _
  keeps:=fun _ _ h => ⟨h,rfl⟩
  len:=yd _
  shape:=fun id ver sz len h => .inl ⟨h,rfl,fun _ arr t ha => ⟨arr,ha,rfl⟩⟩
  map:=fun id es h => ⟨rfl,es,h⟩
  tok:=fun t k n h => ⟨n,h,yd _,fun _ => rfl⟩
  tsz:=fun _ _ h => h
  ow:=fun _ _ => rfl
  new:=fun _ _ h _ _ => h
  frame:=fun _ _ _ => rfl }
 exact ⟨H,⟨R.nb,fun id o h => zcV H rfl (fun _ => rfl) (fun _ _ _ => ⟨rfl,rfl,fun _ h => h⟩) (R.ob id o h)⟩⟩
theorem zAM (R : Rel g w σ) {t k sz c : Nat} {e : TypeId} {fr : List Nat} {xs ys : List (List Fz)} {us vs : List Value} {arr : Array Value} (ht : σ[t]? = some (.tok sz fr)) (hn : fr[k]? = some xs.length)
  (hx : Lay w g.N sz xs us) (hy : Lay w g.N sz ys vs) (h0 : 0 < xs.length + ys.length) (hc : xs.length + ys.length ≤ c) (harr : ∃ rest,arr.toList = us ++ vs ++ rest) (hsz : arr.size = c * sz) (hgrow : 0 < ys.length) :
  ∃ g',Ext g w σ g' (w.alloc (.cells arr e)) (σ.set t (.tok sz (fr.set k (xs.length + ys.length)))) ∧
    Rel g' (w.alloc (.cells arr e)) (σ.set t (.tok sz (fr.set k (xs.length + ys.length)))) ∧
    zw g' (w.alloc (.cells arr e)) (σ.set t (.tok sz (fr.set k (xs.length + ys.length)))) (.ap t k (xs ++ ys)) (.slice (some ⟨w.heap.size,0,none⟩) (xs.length + ys.length) c):=by
 obtain ⟨rest,harr⟩:=harr
 have hxy:=hx.append hy
 have hat:=zbb w (.cells arr e)
 let g' : G:={ g.setTv t k (.slice (some ⟨w.heap.size,0,none⟩) (xs.length + ys.length) c) with ow:=zxD g.ow w.heap.size (.tk t k),N:=fun b1 o1 => g.N b1 o1 ∨ (b1 = w.heap.size ∧ o1 < (xs.length + ys.length) * sz) }
 have how : ∀ b,b < w.heap.size → g'.ow b = g.ow b:=fun b hb => zaF g.ow (k:=w.heap.size) (i:=b) _ (by omega)
 have hst : ∀ b,b < w.heap.size → ztk g w g' (w.alloc (.cells arr e)) b:=fun b hb => ⟨heap_alloc_old w _ hb,how b hb,fun o h => h.elim id fun h => by omega⟩
 have HR:=replace (g':=g') (w':=w.alloc (.cells arr e)) (new:=.tok sz (fr.set k (xs.length + ys.length))) R ht (fun _ => False) rfl rfl rfl (by rw [size_alloc]; omega)
  (fun b hb _ => hst b hb) (fun b hb => hb.elim) (fun b1 o1 _ h => .inl h) (fun _ _ => rfl) (fun j k' hj => G.setTv_ne g _ (by simp [hj]))
  (fun b1 o1 h => by
   rw [size_alloc]
   rcases h with h | h
   ·have:=R.nb b1 o1 h; omega
   ·omega)
  (fun ver' sz' len' hs => by simp [shapeOf,ht,Ob.shape] at hs) (fun es h => by cases h)
  (fun k' n' h => by
   by_cases e : k' = k
   ·subst e
    rw [zdD ht hn] at h
    injection h with h
    subst h
    exact ⟨_,ziA ht hn,by omega,fun e => by omega⟩
   ·obtain ⟨sz1,fr1,k1,k2⟩:=zcX h
    rw [ht] at k1
    injection k1 with k1
    injection k1 with k1 k1'
    subst k1 k1'
    exact ⟨n',zdD (zx ht) (by rw [yl (Ne.symm e)]; exact k2),yd _,fun _ => G.setTv_ne g _ (by simp [e])⟩)
  (fun _ _ h => by injection h with h _; exact ⟨_,by rw [h]⟩)
  (fun H => zqJ R ht (fun k' e => G.setTv_ne g _ (by simp [e])) (fun b1 k' hb1 _ _ => hst b1 hb1)
   (fun n' hn' => by
    rw [yk] at hn'
    simp [zb hn] at hn'
    subst hn'
    refine .inr ⟨w.heap.size,0,c,arr,e,G.setTv_same _ _ _ _,by omega,hc,zha _ _ _,hat,by rw [hsz]; omega,fun o1 h => ?_⟩
    rcases h with h | h
    ·exact absurd (R.nb _ _ h) (yz _)
    ·have:=h.2; omega))
 obtain ⟨HE,HR⟩:=HR
 refine ⟨g',HE,HR,?_⟩
 simp only [zw]
 refine ⟨?_,xs.length + ys.length,ziA ht hn,by simp,fun _ => (G.setTv_same _ _ _ _).symm,sz,zce (zx ht),hxy.2.1⟩
 have:=zvI (w:=w.alloc (.cells arr e)) (N:=g'.N) (b:=w.heap.size) (o:=0) (c:=c) hxy.2.1 (by simpa using hc) (zle hxy HE.keeps fun j v hj => ?_)
 ·simpa using this
 ·have hlt:=zb hj
  rw [hxy.1,yb] at hlt
  refine ⟨.inr ⟨rfl,by omega⟩,?_⟩
  rw [yv,zgX hat,← yx,harr,yf (zb hj)]
  exact hj
theorem zBj (R : Rel g w σ) {id ver sz n c : Nat} {es ys : List (List C)} {vs : List Value} {a : Option Addr} (hid : σ[id]? = some (.cells ver sz es)) (hes : es ≠ []) (hu : zxO w (g.ρ id) sz es.length 0 n (.slice a n c))
  (hvl : vs.length = ys.length * sz) (hy : zco g w σ vs.toArray sz ys) (hroom : n + ys.length ≤ c) (h0 : 0 < n + ys.length) :
  ∃ arr ty,a = some ⟨g.ρ id,0,none⟩ ∧ w.heap[g.ρ id]? = some (.cells arr ty (0,0)) ∧ n * sz + vs.length ≤ arr.size ∧
    Ext g w σ g (w.setRow (g.ρ id) (zcS arr (n * sz) vs)) (σ.set id (.cells (ver + 1) sz (es.take n ++ ys))) ∧
    Rel g (w.setRow (g.ρ id) (zcS arr (n * sz) vs)) (σ.set id (.cells (ver + 1) sz (es.take n ++ ys))) ∧
    zw g (w.setRow (g.ρ id) (zcS arr (n * sz) vs)) (σ.set id (.cells (ver + 1) sz (es.take n ++ ys))) (.own id (ver + 1) 0 (n + ys.length)) (.slice a (n + ys.length) c):=by
 obtain ⟨a',c',e1,e2,e3,e4⟩:=hu
 injection e1 with e1 _ e1c
 subst e1 e1c
 have hlen0 : es.length ≠ 0:=fun h => hes (List.eq_nil_of_length_eq_zero h)
 obtain ⟨f1,f2,arr,ty,f3,f4⟩:=e4 hlen0
 obtain ⟨how,hN,arr1,ty1,hh,hsz,hrow⟩:=R.ob id _ hid hes
 rw [hh] at f3
 injection f3 with f3
 injection f3 with f3 f3t
 subst f3 f3t
 have hm : (n + ys.length) * sz ≤ c * sz:=ya _ hroom
 have hfit : n * sz + vs.length ≤ arr1.size:=by rw [hvl]; rw [yr] at hm; rw [yv] at f4; omega
 have hglt : g.ρ id < w.heap.size:=(yc.1 hh).1
 have HR:=replace (g':=g) (w':=w.setRow (g.ρ id) (zcS arr1 (n * sz) vs)) (new:=.cells (ver + 1) sz (es.take n ++ ys)) R hid (fun b => b = g.ρ id) rfl rfl rfl (by simp)
  (fun b hb ht => ⟨setRow_other w _ _ _ ht,rfl,fun _ h => h⟩)
  (fun b hb => ⟨.inl (by rw [hb]; exact how),rfl,fun o h => absurd (by rw [hb] at h; exact h) (hN o)⟩) (fun _ _ _ h => h) (fun _ _ => rfl) (fun _ _ _ => rfl) (fun b o h => by simpa using R.nb b o h)
  (fun ver' sz' len' hs => by
   rw [zn hid] at hs
   injection hs with hs
   injection hs with hs1 hs2
   injection hs2 with hs2 hs3
   exact .inr ⟨ver + 1,_,by rw [zn (zx hid),hs2],by omega⟩)
  (fun es' h => by cases h) (fun k n h => by simp [zlw,hid,Ob.fr] at h)
  (fun _ _ h => by cases h) (fun H hne' => by
   refine ⟨how,hN,_,ty1,setRow_heap w _ _ _ _ _ hh,?_,fun i x hx => ?_⟩
   ·rw [ze8 hfit,yb,yi,yu (by omega)]
    rw [yv] at f4
    omega
   ·rw [ym] at hx
    have hl : (es.take n).length = n:=by rw [yi]; omega
    rw [hl] at hx
    by_cases ci : i < n
    ·rw [if_pos ci,List.getElem?_take,if_pos ci] at hx
     refine ⟨(hrow i x hx).1,fun j c hc => ?_⟩
     obtain ⟨u,k1,k2,k3⟩:=(hrow i x hx).2 j c hc
     have hj : j < sz:=by have:=zb hc; have:=(hrow i x hx).1; omega
     exact ⟨u,by rw [zfh hfit,if_pos (inside ci hj)]; exact k1,H.zw c u k2,k3⟩
    ·rw [if_neg ci] at hx
     refine ⟨(hy _ x hx).1,fun j c hc => ?_⟩
     obtain ⟨u,k1,k2,k3⟩:=(hy _ x hx).2 j c hc
     have hj : j < sz:=by have:=zb hc; have:=(hy _ x hx).1; omega
     have hlt:=inside (zb hx) hj
     have e1 : i * sz + j = n * sz + ((i - n) * sz + j):=by
      rw [yy]
      have : n * sz ≤ i * sz:=ya _ (yp ci)
      omega
     refine ⟨u,?_,H.zw c u k2,k3⟩
     rw [zfh hfit,if_neg (by omega),if_pos (by omega),e1,yg]
     simpa using k1)
 obtain ⟨HE,HR⟩:=HR
 refine ⟨arr1,ty1,by simpa using f2 (by omega),hh,hfit,HE,HR,?_⟩
 simp only [zw]
 refine ⟨ver + 1,sz,_,zn (zx hid),yd _,fun _ => ⟨a,c,rfl,hroom,fun h => ?_,fun _ => ⟨?_,f2,zcS arr1 (n * sz) vs,ty1,setRow_heap w _ _ _ _ _ hh,?_⟩⟩,_,_,rfl⟩
 ·rw [yb,yi,yu (by omega)] at h
  omega
 ·rw [yb,yi,yu (by omega)]
  omega
 ·rw [ze8 hfit]; exact f4
theorem zBE (R : Rel g w σ) {id ver sz n c : Nat} {e : TypeId} {es ys : List (List C)} {us vs : List Value} {arr : Array Value} (hid : σ[id]? = some (.cells ver sz es)) (hn : n ≤ es.length)
  (hul : us.length = n * sz) (hx : zco g w σ us.toArray sz (es.take n)) (hvl : vs.length = ys.length * sz) (hy : zco g w σ vs.toArray sz ys) (hc : n + ys.length ≤ c) (h0 : 0 < n + ys.length)
  (harr : ∃ rest,arr.toList = us ++ vs ++ rest) (hsz : arr.size = c * sz) :
  ∃ g',Ext g w σ g' (w.alloc (.cells arr e)) (σ.set id (.cells (ver + 1) sz (es.take n ++ ys))) ∧
    Rel g' (w.alloc (.cells arr e)) (σ.set id (.cells (ver + 1) sz (es.take n ++ ys))) ∧
    zw g' (w.alloc (.cells arr e)) (σ.set id (.cells (ver + 1) sz (es.take n ++ ys))) (.own id (ver + 1) 0 (n + ys.length)) (.slice (some ⟨w.heap.size,0,none⟩) (n + ys.length) c):=by
 obtain ⟨rest,harr⟩:=harr
 have hat:=zbb w (.cells arr e)
 have hl : (es.take n).length = n:=by rw [yi]; omega
 let g' : G:=g.own id w.heap.size
 have how : ∀ b,b < w.heap.size → g'.ow b = g.ow b:=fun b hb => zaF g.ow (k:=w.heap.size) (i:=b) _ (by omega)
 have hst : ∀ b,b < w.heap.size → ztk g w g' (w.alloc (.cells arr e)) b:=fun b hb => ⟨heap_alloc_old w _ hb,how b hb,fun o h => h⟩
 have hget : ∀ q u,(us ++ vs)[q]? = some u → arr[q]? = some u:=fun q u h => by
  rw [← yx,harr,yf (zb h)]
  exact h
 have HR:=replace (g':=g') (w':=w.alloc (.cells arr e)) (new:=.cells (ver + 1) sz (es.take n ++ ys)) R hid (fun _ => False) rfl rfl rfl (by rw [size_alloc]; omega)
  (fun b hb _ => hst b hb) (fun b hb => hb.elim) (fun b1 o1 _ h => h) (fun j hj => zaF g.ρ (k:=id) (i:=j) _ hj) (fun _ _ _ => rfl)
  (fun b1 o1 h => by rw [size_alloc]; have:=R.nb b1 o1 h; omega)
  (fun ver' sz' len' hs => by
   rw [zn hid] at hs
   injection hs with hs
   injection hs with hs1 hs2
   injection hs2 with hs2 hs3
   exact .inr ⟨ver + 1,_,by rw [zn (zx hid),hs2],by omega⟩)
  (fun es' h => by cases h) (fun k n h => by simp [zlw,hid,Ob.fr] at h)
  (fun _ _ h => by cases h) (fun H hne' => by
   refine ⟨by simp [g',G.own],fun o h => absurd (R.nb _ _ (by simpa [g',G.own] using h)) (yz _),arr,e,by simpa [g',G.own] using hat,?_,fun i x hx' => ?_⟩
   ·rw [hsz,yb,hl]
    exact ya _ hc
   ·rw [ym,hl] at hx'
    by_cases ci : i < n
    ·rw [if_pos ci] at hx'
     refine ⟨(hx i x hx').1,fun j c hc => ?_⟩
     obtain ⟨u,k1,k2,k3⟩:=(hx i x hx').2 j c hc
     refine ⟨u,hget _ u ?_,H.zw c u k2,k3⟩
     have k1' : us[i * sz + j]? = some u:=by simpa using k1
     rw [yf (zb k1')]
     exact k1'
    ·rw [if_neg ci] at hx'
     refine ⟨(hy _ x hx').1,fun j c hc => ?_⟩
     obtain ⟨u,k1,k2,k3⟩:=(hy _ x hx').2 j c hc
     refine ⟨u,hget _ u ?_,H.zw c u k2,k3⟩
     have e1 : i * sz + j = us.length + ((i - n) * sz + j):=by
      rw [hul,yy]
      have : n * sz ≤ i * sz:=ya _ (yp ci)
      omega
     rw [e1,List.getElem?_append_right (by omega),yg]
     simpa using k1)
 obtain ⟨HE,HR⟩:=HR
 refine ⟨g',HE,HR,?_⟩
 simp only [zw]
 refine ⟨ver + 1,sz,_,zn (zx hid),yd _,fun _ => ⟨_,c,rfl,hc,fun h => ?_,fun _ => ⟨?_,fun _ => by simp [g',G.own],arr,e,by simpa [g',G.own] using hat,by rw [hsz,yv]; exact yd _⟩⟩,_,_,rfl⟩
 ·rw [yb,hl] at h
  omega
 ·rw [yb,hl]
  omega
theorem map_set (R : Rel g w σ) {id clock clock' : Nat} {es es' : List (Int × V)} {zbl ents' : Array MapEntry} (hid : σ[id]? = some (.mp es)) (hh : w.heap[g.ρ id]? = some (.map zbl clock))
  (hm : ∀ {g' : G} {w' : World} {σ' : zd},Ext g w σ g' w' σ' → zk2 g' w' σ' es' ents'.toList clock') :
  Ext g w σ g { w with heap:=w.heap.setIfInBounds (g.ρ id) (.map ents' clock') } (σ.set id (.mp es')) ∧ Rel g { w with heap:=w.heap.setIfInBounds (g.ρ id) (.map ents' clock') } (σ.set id (.mp es')):=by
 obtain ⟨how,hN,_,_,_,_⟩:=R.ob id _ hid
 have hglt : g.ρ id < w.heap.size:=(yc.1 hh).1
 refine replace (g':=g) R hid (fun b => b = g.ρ id) rfl rfl rfl (by simp) (fun b hb ht => ⟨?_,rfl,fun _ h => h⟩)
  (fun b hb => ⟨.inl (by rw [hb]; exact how),rfl,fun o h => absurd (by rw [hb] at h; exact h) (hN o)⟩) (fun _ _ _ h => h) (fun _ _ => rfl) (fun _ _ _ => rfl) (fun b o h => by simpa using R.nb b o h)
  (fun ver' sz' len' hs => by simp [shapeOf,hid,Ob.shape] at hs) (fun es0 h => ⟨rfl,es',rfl⟩) (fun k n h => by simp [zlw,hid,Ob.fr] at h)
  (fun _ _ h => by cases h) (fun H => ⟨how,hN,ents',clock',?_,hm H⟩)
 ·simp only [ye]
  rw [if_neg (Ne.symm ht)]
 ·simp only [ye]
  simp [hglt]
end
end Go.A
namespace Go.A
def zzs : Value → Value → Bool
 | .bool a,.bool b => a == b
 | .int k a,.int k' b => decide (k = k') && decide (a = b)
 | .string a,.string b => decide (a = b)
 | .pointer none,.pointer none => true
 | .map none,.map none => true
 | .nilFunc,.nilFunc => true
 | _,_ => false
theorem zs0 {u v : Value} (h : zzs u v = true) : u = v ∧ zxA v = true:=by
 unfold zzs at h
 split at h <;> simp_all [zxA]
def zvA : Value → C → Bool
 | .slice none 0 0,.f (.sl []) => true
 | v,.f (.lit v') => zzs v v'
 | _,_ => false
def ze5 : List Value → List C → Bool
 | [],[] => true
 | v :: vs,c :: cs => zvA v c && ze5 vs cs
 | _,_ => false
def zpv : Value → V → Bool
 | .agg us,.agg cs => ze5 us.toList cs
 | v,.one c => zvA v c
 | _,_ => false
section
variable {g : G} {w : World} {σ : zd}
theorem znC {v : Value} {c : C} (h : zvA v c = true) : zw g w σ c v ∧ v.oneCell' = true:=by
 unfold zvA at h
 split at h
 ·refine ⟨?_,rfl⟩
  rw [zw,rep]
  exact ⟨none,0,0,rfl,yd _,by simp only [zbO],.inl rfl⟩
 ·obtain ⟨e,h2⟩:=zs0 h
  subst e
  refine ⟨by rw [zw,rep]; exact ⟨rfl,h2⟩,?_⟩
  cases v <;> simp_all [zxA,Value.oneCell']
 ·cases h
theorem zax : ∀ {vs : List Value} {cs : List C},ze5 vs cs = true → zv g w σ cs vs ∧ ∀ v ∈ vs,v.oneCell' = true
 | [],[],_ => by simp [zv]
 | v :: vs,c :: cs,h => by
   simp only [ze5,yj] at h
   obtain ⟨h1,h2⟩:=znC (g:=g) (w:=w) (σ:=σ) h.1
   obtain ⟨h3,h4⟩:=zax h.2
   refine ⟨by simp only [zv]; exact ⟨v,vs,rfl,h1,h3⟩,fun u hu => ?_⟩
   rcases List.mem_cons.1 hu with rfl | hu
   ·exact h2
   ·exact h4 u hu
 | [],_ :: _,h => by simp [ze5] at h
 | _ :: _,[],h => by simp [ze5] at h
theorem zfx {v : Value} {x : V} (h : zpv v x = true) : zf g w σ x v:=by
 unfold zpv at h
 split at h
 ·rename_i us cs
  simp only [zf]
  exact ⟨us,rfl,(zax h).1⟩
 ·simp only [zf]
  exact (znC h).1
 ·cases h
end
def okX (κ : List Tmp) (loc : List (Option Tmp)) : Operand → X → Bool
 | .tmp t,.s i => κ[i]? == some t
 | .tmp t,.l d => loc[d]? == some (some t) && (loc.take d).all (· != some t)
 | .const v,.c x => zpv v x
 | .func f,.c (.one (.fn f' [] [])) => f == f'
 | _,_ => false
structure Fr (κ : List Tmp) (loc : List (Option Tmp)) (nt : Nat) (g : G) (w : World) (r : R) (a : Act) : Prop where
 size : a.tmps.size = nt
 len : r.env.length = κ.length
 env : ∀ (i : Nat) (t : Tmp),κ[i]? = some t → zf g w r.st (r.env.getD i vun) (a.tmps.getD t undef)
 lc : ∀ (d : Nat) (t : Tmp),loc[d]? = some (some t) → (loc.take d).all (· != some t) = true → zf g w r.st (r.rs.getD d vun) (a.tmps.getD t undef)
 lk : ∀ (d : Nat) (t : Tmp),loc[d]? = some (some t) → t ∉ κ
 nd : κ.Nodup
 bd : ∀ t ∈ κ,t < nt
 df : a.defers = []
section
variable {κ : List Tmp} {loc : List (Option Tmp)} {nt : Nat} {g : G} {w : World} {r : R} {a : Act}
theorem Fr.get (F : Fr κ loc nt g w r a) {x : Operand} {y : X} (h : okX κ loc x y = true) : zf g w r.st (r.get y) (a.eval x):=by
 unfold okX at h
 split at h
 ·exact F.env _ _ (by simpa using h)
 ·simp only [yj,beq_iff_eq] at h
  exact F.lc _ _ h.1 h.2
 ·exact zfx h
 ·rename_i f f'
  have e : f = f':=by simpa using h
  subst e
  simp only [R.get,Act.eval,zf,zw]
  exact ⟨_,_,rfl,by simp [zv],by simp [zv]⟩
 ·cases h
theorem Fr.ext {g' : G} {w' : World} {r' : R} (F : Fr κ loc nt g w r a) (H : Ext g w r.st g' w' r'.st) (he : r'.env = r.env) (hr : r'.rs = r.rs) : Fr κ loc nt g' w' r' a :=
 ⟨F.size,by rw [he]; exact F.len,fun i t h => by rw [he]; exact H.zf _ _ (F.env i t h),fun d t h h' => by rw [hr]; exact H.zf _ _ (F.lc d t h h'),F.lk,F.nd,F.bd,F.df⟩
def okD (κ : List Tmp) (nt : Nat) : Option Tmp → D → Bool
 | none,.no => true
 | some t,.loc => !κ.contains t && decide (t < nt)
 | some t,.slot i => κ[i]? == some t
 | _,_ => false
def zaO : Option Tmp → D → Option Tmp
 | some t,.loc => some t
 | _,_ => none
theorem zht {ts : Array Value} {t t' : Nat} {u : Value} : (ts.setIfInBounds t u).getD t' undef = if t = t' ∧ t < ts.size then u else ts.getD t' undef:=by
 simp only [Array.getD_eq_getD_getElem?,ye]
 by_cases h : t = t'
 ·subst h
  by_cases h2 : t < ts.size <;> simp [h2]
 ·simp [h]
theorem zhD {α : Type} (x : α) (l : List α) (d : Nat) (z : α) : (x :: l).getD (d + 1) z = l.getD d z:=by simp
theorem Fr.put (F : Fr κ loc nt g w r a) {t : Option Tmp} {d : D} (h : okD κ nt t d = true) {v : V} {u : Value} (hv : d ≠ .no → zf g w r.st v u) : Fr κ (zaO t d :: loc) nt g w (r.put d v) (a.put t u):=by
 unfold okD at h
 split at h
 ·
  refine ⟨F.size,F.len,F.env,fun d' t' h1 h2 => ?_,fun d' t' h1 => ?_,F.nd,F.bd,F.df⟩
  ·cases d' with
   | zero => simp [zaO] at h1
   | succ d' =>
     simp only [R.put,zhD]
     exact F.lc d' t' (by simpa using h1) (by simpa [yh,zaO] using h2)
  ·cases d' with
   | zero => simp [zaO] at h1
   | succ d' => exact F.lk d' t' (by simpa using h1)
 ·
  rename_i t
  simp only [yj,Bool.not_eq_true',decide_eq_true_eq] at h
  have hk : t ∉ κ:=by simpa using h.1
  have ht : t < a.tmps.size:=by rw [F.size]; exact h.2
  refine ⟨by simp [Act.put,F.size],F.len,fun i t' h1 => ?_,fun d' t' h1 h2 => ?_,fun d' t' h1 => ?_,F.nd,F.bd,F.df⟩
  ·have hne : t ≠ t':=fun e => hk (by rw [e]; exact yn h1)
   simp only [Act.put,zht,hne,false_and,if_false]
   exact F.env i t' h1
  ·cases d' with
   | zero =>
     simp [zaO] at h1
     subst h1
     simp only [Act.put,zht,ht,and_self,if_true]
     exact hv (by simp)
   | succ d' =>
     have hne : t ≠ t':=fun e => by
      subst e
      simp [yh,zaO] at h2
     simp only [Act.put,zht,hne,false_and,if_false,R.put,zhD]
     refine F.lc d' t' (by simpa using h1) ?_
     rw [yh,yA,yj] at h2
     exact h2.2
  ·cases d' with
   | zero => simp [zaO] at h1; subst h1; exact hk
   | succ d' => exact F.lk d' t' (by simpa using h1)
 ·
  rename_i t i
  have hi : κ[i]? = some t:=by simpa using h
  have ht : t < a.tmps.size:=by rw [F.size]; exact F.bd t (yn hi)
  have hil : i < r.env.length:=by rw [F.len]; exact zb hi
  refine ⟨by simp [Act.put,F.size],by simp [R.put,F.len],fun i' t' h1 => ?_,fun d' t' h1 h2 => ?_,fun d' t' h1 => ?_,F.nd,F.bd,F.df⟩
  ·simp only [Act.put,zht,R.put,yo,yk]
   by_cases e : t = t'
   ·subst e
    have : i = i':=(List.getElem?_inj (zb hi) F.nd).1 (hi.trans h1.symm)
    subst this
    simp only [ht,and_self,if_true,hil,Option.getD_some]
    exact hv (by simp)
   ·have : i ≠ i':=fun e' => e (by subst e'; rw [hi] at h1; injection h1)
    simp only [e,false_and,if_false,this]
    have:=F.env i' t' h1
    rwa [yo] at this
  ·cases d' with
   | zero => simp [zaO] at h1
   | succ d' =>
     have h1' : loc[d']? = some (some t'):=by simpa using h1
     have hne : t ≠ t':=fun e => F.lk d' t' h1' (by rw [← e]; exact yn hi)
     simp only [Act.put,zht,hne,false_and,if_false,R.put,zhD]
     refine F.lc d' t' h1' ?_
     rw [yh,yA,yj] at h2
     exact h2.2
  ·cases d' with
   | zero => simp [zaO] at h1
   | succ d' => exact F.lk d' t' (by simpa using h1)
 ·cases h
end
end Go.A
namespace Go.A
def zhf (P : Program) (t : TypeId) : Option Nat:=(P.info? t).map (·.size)
def zjN (P : Program) (t : TypeId) : Option Bool:=(P.underlying t).map fun d => match d with
 | .struct _ | .array _ _ => true
 | _ => false
section
variable {P : Program} {κ : List Tmp} {loc : List (Option Tmp)} {nt : Nat} {g : G} {w : World} {r r' : R} {a : Act} {o : Go.Oper} {d : D} {next : Act → World → Prop} {Q : Exit → Act → World → Prop}
theorem zlR {u : Value} {w' : World} (h : (execOp a.eval o).run P w = .ok (.value u) w') (k : next (a.put o.dst u) w') : o.wp P a w next Q:=by
 unfold Oper.wp
 rw [h]
 exact k
theorem zBN {w' : World} (h : (execOp a.eval o).run P w = .ok .skip w') (k : next (a.put o.dst undef) w') : o.wp P a w next Q:=by
 unfold Oper.wp
 rw [h]
 exact k
theorem zeX (r : R) (d : D) (v : V) : (r.put d v).st = r.st:=by cases d <;> rfl
theorem zA {σ : zd} {v u : Value} (h : zf g w σ (.one (.f (.lit v))) u) : u = v ∧ zxA v = true:=by
 simpa only [zf,zw,rep] using h
theorem zt {σ : zd} {v : Value} (h : zxA v = true) : zf g w σ (.one (.f (.lit v))) v:=by
 rw [zf,zw,rep]
 exact ⟨rfl,h⟩
theorem zpQ (op : BinOp) (t : TypeId) (x y : Operand) (yt : TypeId) (ho : o.op = .binOp op t x y yt) {k k' : IntKind} {m n : Int} (hx : a.eval x = .int k m) (hy : a.eval y = .int k' n) :
  (execOp a.eval o).run P w = ((do let v ← binOp op t (.int k m) (.int k' n); pure (Next.value v) : Sem Next)).run P w:=by
 unfold execOp
 simp only [ho,hx,hy,eqGuard]
 cases op <;> simp
theorem zv6 {op : BinOp} {t : TypeId} {x y : Operand} {yt : TypeId} (ho : o.op = .binOp op t x y yt) {vx vy v : V} (hx : zf g w r.st vx (a.eval x)) (hy : zf g w r.st vy (a.eval y)) (h : zE8 op vx vy = some v) :
  ∃ u,(execOp a.eval o).run P w = .ok (.value u) w ∧ zf g w r.st v u:=by
 unfold zE8 at h
 split at h
 ·rename_i k m k' n
  obtain ⟨ex,_⟩:=zA hx
  obtain ⟨ey,_⟩:=zA hy
  rw [zpQ op t x y yt ho ex ey]
  split at h
  ·rename_i hs
   unfold zyb at h
   split at h
   ·rename_i h0
    have h0' : ¬ n < 0:=by omega
    cases op <;> simp [zq5] at hs <;> simp only [Option.some.injEq] at h <;> subst h <;>
     exact ⟨_,by simp [binOp,Op.shift,h0'],zt rfl⟩
   ·cases h
  ·rename_i hs
   split at h
   ·rename_i hk
    subst hk
    unfold zFw at h
    cases op <;> simp [zq5] at hs <;> simp only at h
    case quo =>
     split at h
     ·cases h
     ·rename_i h0
      injection h with h
      subst h
      exact ⟨_,by simp [binOp,Op.intDiv,h0],zt rfl⟩
    case rem =>
     split at h
     ·cases h
     ·rename_i h0
      injection h with h
      subst h
      exact ⟨_,by simp [binOp,Op.intDiv,h0],zt rfl⟩
    case andNot => cases h
    all_goals
     injection h with h
     subst h
     refine ⟨_,?_,zt rfl⟩
     simp [binOp,Op.intArith,Op.intBits,Op.intCmp]
    all_goals (by_cases e : m = n <;> simp [e])
   ·cases h
 ·cases h
theorem zog {x : Operand} (ho : o.op = .move x ∨ o.op = .assign x) : (execOp a.eval o).run P w = .ok (.value (a.eval x)) w:=by
 unfold execOp
 rcases ho with ho | ho <;> simp [ho]
theorem zw2 {c x y : Operand} (ho : o.op = .pick c x y) {vc vx vy v : V} (hc : zf g w r.st vc (a.eval c)) (hx : zf g w r.st vx (a.eval x)) (hy : zf g w r.st vy (a.eval y)) (h : zBz vx vy vc = some v) :
  ∃ u,(execOp a.eval o).run P w = .ok (.value u) w ∧ zf g w r.st v u:=by
 unfold zBz at h
 split at h
 ·rename_i t
  obtain ⟨ec,_⟩:=zA hc
  injection h with h
  subst h
  refine ⟨if t then a.eval x else a.eval y,?_,?_⟩
  ·unfold execOp
   simp [ho,ec,asBool]
  ·cases t
   ·simpa using hy
   ·simpa using hx
 ·cases h
theorem zzq {op : UnOp} {t : TypeId} {x : Operand} (ho : o.op = .unOp op t x) {vx v : V} (hx : zf g w r.st vx (a.eval x)) (h : aun op vx = some v) :
  ∃ u,(execOp a.eval o).run P w = .ok (.value u) w ∧ zf g w r.st v u:=by
 unfold aun at h
 split at h
 ·obtain ⟨ex,_⟩:=zA hx
  injection h with h
  subst h
  exact ⟨_,by unfold execOp; simp [ho,ex,Op.unary],zt rfl⟩
 ·obtain ⟨ex,_⟩:=zA hx
  injection h with h
  subst h
  exact ⟨_,by unfold execOp; simp [ho,ex,Op.unary,Op.intArith],zt rfl⟩
 ·cases h
theorem zxj {k : IntKind} {s t : TypeId} {x : Operand} (ho : o.op = .convert s t x) (hs : (P.underlying s).isSome = true) (ht : P.underlying t = some (.int k)) {vx v : V} (hx : zf g w r.st vx (a.eval x)) (h : zCc k vx = some v) :
  ∃ u,(execOp a.eval o).run P w = .ok (.value u) w ∧ zf g w r.st v u:=by
 unfold zCc at h
 split at h
 ·obtain ⟨ex,_⟩:=zA hx
  injection h with h
  subst h
  obtain ⟨ds,hs⟩:=Option.isSome_iff_exists.1 hs
  exact ⟨_,by unfold execOp; simp [ho,ex,convert,run_underlying hs,run_underlying ht,Conv.intToInt],zt rfl⟩
 ·cases h
theorem zsd {σ : zd} {xs : List (List Fz)} {u : Value} (h : zf g w σ (.one (.f (.sl xs))) u) : rep w g.N (.sl xs) u:=by simpa only [zf,zw] using h
theorem zsa {σ : zd} {t k : Nat} {xs : List (List Fz)} {u : Value} (h : zf g w σ (.one (.ap t k xs)) u) : rep w g.N (.sl xs) u:=by
 simp only [zf,zw] at h
 exact h.1
theorem zjF {N : zf1} {xs : List (List Fz)} {u : Value} (h : rep w N (.sl xs) u) : ∃ a c,u = .slice a xs.length c ∧ xs.length ≤ c:=by
 simp only [rep] at h
 obtain ⟨a,c,_,e,hc,_⟩:=h
 exact ⟨a,c,e,hc⟩
theorem zfY {σ : zd} {id ver lo n : Nat} {u : Value} (h : zf g w σ (.one (.own id ver lo n)) u) {sz : Nat} {es : List (List C)} (ho : σ[id]? = some (.cells ver sz es)) : zxO w (g.ρ id) sz es.length lo n u:=by
 simp only [zf,zw] at h
 obtain ⟨v0,sz0,len,h1,_,h3,_⟩:=h
 rw [zn ho] at h1
 injection h1 with h1
 injection h1 with e1 h1
 injection h1 with e2 e3
 subst e1 e2 e3
 exact h3 rfl
theorem zwh {σ : zd} {v : V} {u : Value} {n : V} (h : zf g w σ v u) (hv : zEo v = some n) : ∃ b k c,u = .slice b k c ∧ n = zB1 .i64 k:=by
 unfold zEo at hv
 split at hv
 ·simp only [zf,zw] at h
  obtain ⟨_,_,_,_,_,_,b,c,e⟩:=h
  injection hv with hv
  exact ⟨b,_,c,e,hv.symm⟩
 ·obtain ⟨b,c',e,_⟩:=zjF (zsd h)
  injection hv with hv
  exact ⟨b,_,c',e,hv.symm⟩
 ·obtain ⟨b,c',e,_⟩:=zjF (zsa h)
  injection hv with hv
  exact ⟨b,_,c',e,hv.symm⟩
 ·cases hv
theorem zAg {t : TypeId} {x : Operand} {c : Go.Call} (ho : o.op = .call c) (hc : c.callee = .builtin .len) (hx' : c.args = #[x]) (ht' : c.argTypes = #[t]) {e : TypeId} (ht : P.underlying t = some (.slice e))
  {vx v : V} (hx : zf g w r.st vx (a.eval x)) (h : zEo vx = some v) :
  ∃ u,(execOp a.eval o).run P w = .ok (.value u) w ∧ zf g w r.st v u:=by
 obtain ⟨b,k,c',e,rfl⟩:=zwh hx h
 refine ⟨.int .i64 k,?_,zt rfl⟩
 unfold execOp
 simp [ho,resolve,hc,hx',ht',e,invoke,builtin,Builtin.len_,run_underlying ht,goInt]
theorem zxw {t : TypeId} {x : Operand} {c : Go.Call} (ho : o.op = .call c) (hc : c.callee = .builtin .len) (hx' : c.args = #[x]) (ht' : c.argTypes = #[t]) (ht : P.underlying t = some .string)
  {vx v : V} (hx : zf g w r.st vx (a.eval x)) (h : zBS vx = some v) :
  ∃ u,(execOp a.eval o).run P w = .ok (.value u) w ∧ zf g w r.st v u:=by
 unfold zBS at h
 split at h
 ·rename_i s
  obtain ⟨ex,_⟩:=zA hx
  injection h with h
  subst h
  refine ⟨.int .i64 s.size,?_,zt rfl⟩
  unfold execOp
  simp [ho,resolve,hc,hx',ht',ex,invoke,builtin,Builtin.len_,run_underlying ht,goInt]
 ·cases h
theorem zt3 {t : TypeId} {fs : Array Field} {i : Nat} {f : Field} {ad : Addr} {n : Nat} (ht : P.underlying t = some (.struct fs)) (hf : fs[i]? = some f) (hs : zhf P f.type = some n) (hn : n ≠ 0) :
  (Instr.fieldAt t (.pointer (some ad)) i).run P w = .ok (.pointer (some (ad.add f.offset))) w:=by
 unfold zhf at hs
 cases hq : P.info? f.type with
 | none => simp [hq] at hs
 | some inf =>
   have hsz : inf.size = n:=by simpa [hq] using hs
   simp [Instr.fieldAt,run_underlying ht,hf,Instr.sureAddr,fieldPlace,sizeOf,typeInfo,hq,hsz,hn]
theorem zaz (b o j : Nat) : (⟨b,o,none⟩ : Addr).add j = ⟨b,o + j,none⟩:=by unfold Addr.add; split <;> simp_all
theorem zBQ {t : TypeId} {x : Operand} {i n off : Nat} {fs : Array Field} {f : Field} (ho : o.op = .fieldAddr t x i) (ht : P.underlying t = some (.struct fs)) (hf : fs[i]? = some f) (hs : zhf P f.type = some n) (hn : n ≠ 0) (hoff : f.offset = off)
  {vx v : V} (hx : zf g w r.st vx (a.eval x)) (h : afa off vx = some v) :
  ∃ u,(execOp a.eval o).run P w = .ok (.value u) w ∧ zf g w r.st v u:=by
 have key : ∀ ad,a.eval x = .pointer (some ad) → (execOp a.eval o).run P w = .ok (.value (.pointer (some (ad.add off)))) w:=fun ad e => by
  unfold execOp
  simp only [ho,e]
  simp [zt3 (w:=w) (ad:=ad) ht hf hs hn,hoff]
 unfold afa at h
 split at h
 ·rename_i id ver j o'
  injection h with h
  subst h
  simp only [zf,zw] at hx
  obtain ⟨v0,sz,len,h1,h2,h3,ad,h4⟩:=hx
  refine ⟨_,key ad h4,?_⟩
  simp only [zf,zw]
  refine ⟨v0,sz,len,h1,h2,fun e => ?_,_,rfl⟩
  have:=h3 e
  rw [h4] at this
  injection this with this
  injection this with this
  rw [this,zaz,yq]
 ·rename_i cs o'
  injection h with h
  subst h
  simp only [zf,zw] at hx
  obtain ⟨b,oo,h1,h2⟩:=hx
  refine ⟨_,key _ h1,?_⟩
  simp only [zf,zw]
  exact ⟨b,oo,by rw [zaz,yq],h2⟩
 ·cases h
theorem zpB {t e : TypeId} {k : IntKind} {n : Int} {ad : Addr} {len cap sz : Nat} (ht : P.underlying t = some (.slice e)) (hs : zhf P e = some sz) (h0 : 0 ≤ n) (h1 : n < len) :
  (Instr.indexAt t (.slice (some ad) len cap) (.int k n)).run P w = .ok (.pointer (some (ad.add (n.toNat * sz)))) w:=by
 unfold zhf at hs
 cases hq : P.info? e with
 | none => simp [hq] at hs
 | some inf =>
   have hsz : inf.size = sz:=by simpa [hq] using hs
   simp [Instr.indexAt,asIntOf,run_underlying ht,h0,h1,sizeOf,typeInfo,hq,hsz]
theorem zpU {t e : TypeId} {k : IntKind} {n : Int} {ad : Addr} {len sz : Nat} (ht : P.underlying t = some (.array len e)) (hs : zhf P e = some sz) (h0 : 0 ≤ n) (h1 : n < len) :
  (Instr.indexAt t (.pointer (some ad)) (.int k n)).run P w = .ok (.pointer (some (ad.add (n.toNat * sz)))) w:=by
 unfold zhf at hs
 cases hq : P.info? e with
 | none => simp [hq] at hs
 | some inf =>
   have hsz : inf.size = sz:=by simpa [hq] using hs
   simp [Instr.indexAt,asIntOf,run_underlying ht,h0,h1,sizeOf,typeInfo,hq,hsz,Instr.sureAddr]
theorem zj4 {ver sz : Nat} {ob : Ob} (h : ob.isRow ver sz = true) : ∃ es,ob = .cells ver sz es:=by
 unfold Ob.isRow at h
 split at h
 ·simp at h
  obtain ⟨rfl,rfl⟩:=h
  exact ⟨_,rfl⟩
 ·cases h
theorem zs1 {t e : TypeId} {x i : Operand} {sz : Nat} (ho : o.op = .indexAddr t x i) (ht : P.underlying t = some (.slice e)) (hs : zhf P e = some sz) {xs : List (List Fz)} {k : IntKind} {n : Int} (hx : rep w g.N (.sl xs) (a.eval x)) (hi : a.eval i = .int k n)
  {v : V} (h0 : 0 ≤ n) (h : (xs[n.toNat]?).bind (zER sz) = some v) : ∃ u,(execOp a.eval o).run P w = .ok (.value u) w ∧ zf g w r.st v u:=by
 rw [yw] at h
 obtain ⟨el,h1,h2⟩:=h
 unfold zER at h2
 split at h2
 ·rename_i hel
  injection h2 with h2
  subst h2
  simp only [rep] at hx
  obtain ⟨ad,c,sz',e1,e2,e3,e4⟩:=hx
  rcases e4 with rfl | ⟨b,oo,rfl,e4⟩
  ·simp at h1
  ·have hlt:=zb h1
   have hsz : sz' = sz:=by rw [← zbQ e3 h1,hel]
   subst hsz
   refine ⟨.pointer (some ⟨b,oo + n.toNat * sz',none⟩),?_,?_⟩
   ·unfold execOp
    simp only [ho,e1,hi]
    simp [zpB (w:=w) (ad:=⟨b,oo,none⟩) (cap:=c) ht hs h0 (by omega : n < (xs.length : Int)),zaz]
   ·simp only [vfp,zf,zw]
    exact ⟨b,oo + n.toNat * sz',rfl,zfb e4 h1⟩
 ·cases h2
theorem zB4 {t e : TypeId} {x i : Operand} {sz : Nat} (ho : o.op = .indexAddr t x i) (ht : P.underlying t = some (.slice e)) (hs : zhf P e = some sz)
  {vx vi v : V} (hx : zf g w r.st vx (a.eval x)) (hi : zf g w r.st vi (a.eval i)) (h : aia r.st sz vx vi = some v) :
  ∃ u,(execOp a.eval o).run P w = .ok (.value u) w ∧ zf g w r.st v u:=by
 unfold aia at h
 split at h
 ·rename_i id ver lo n k m
  obtain ⟨ei,_⟩:=zA hi
  split at h
  ·rename_i hm
   rw [yw] at h
   obtain ⟨ob,h1,h2⟩:=h
   unfold zsF at h2
   split at h2
   ·rename_i hrow
    injection h2 with h2
    subst h2
    obtain ⟨es,rfl⟩:=zj4 hrow
    obtain ⟨ad,c,e1,e2,e3,e4⟩:=zfY hx h1
    have hne : es.length ≠ 0:=fun h0 => by have:=e3 h0; omega
    obtain ⟨f1,f2,_⟩:=e4 hne
    have f3:=f2 (by omega)
    subst f3
    refine ⟨.pointer (some ⟨g.ρ id,lo * sz + m.toNat * sz,none⟩),?_,?_⟩
    ·unfold execOp
     simp only [ho,e1,ei]
     simp [zpB (w:=w) (ad:=⟨g.ρ id,lo * sz,none⟩) (cap:=c) ht hs hm.1 hm.2,zaz]
    ·simp only [zf,zw]
     exact ⟨ver,sz,es.length,zn h1,yd _,fun _ => by rw [yr,Nat.add_zero],_,rfl⟩
   ·cases h2
  ·cases h
 ·obtain ⟨ei,_⟩:=zA hi
  split at h
  ·rename_i h0
   exact zs1 ho ht hs (zsd hx) ei h0 h
  ·cases h
 ·obtain ⟨ei,_⟩:=zA hi
  split at h
  ·rename_i h0
   exact zs1 ho ht hs (zsa hx) ei h0 h
  ·cases h
 ·cases h
theorem zx8 {t e : TypeId} {x i : Operand} {len sz : Nat} (ho : o.op = .indexAddr t x i) (ht : P.underlying t = some (.array len e)) (hs : zhf P e = some sz)
  {vx vi v : V} (hx : zf g w r.st vx (a.eval x)) (hi : zf g w r.st vi (a.eval i)) (h : zEU len sz vx vi = some v) :
  ∃ u,(execOp a.eval o).run P w = .ok (.value u) w ∧ zf g w r.st v u:=by
 have key : ∀ ad k m,a.eval x = .pointer (some ad) → a.eval i = .int k m → 0 ≤ m ∧ m < len → (execOp a.eval o).run P w = .ok (.value (.pointer (some (ad.add (m.toNat * sz))))) w:=fun ad k m e e' hm => by
  unfold execOp
  simp only [ho,e,e']
  simp [zpU (w:=w) (ad:=ad) ht hs hm.1 hm.2]
 unfold zEU at h
 split at h
 ·obtain ⟨ei,_⟩:=zA hi
  split at h
  ·rename_i hm
   injection h with h
   subst h
   simp only [zf,zw] at hx
   obtain ⟨v0,sz0,len0,h1,h2,h3,ad,h4⟩:=hx
   refine ⟨_,key ad _ _ h4 ei hm,?_⟩
   simp only [zf,zw]
   refine ⟨v0,sz0,len0,h1,h2,fun e => ?_,_,rfl⟩
   have:=h3 e
   rw [h4] at this
   injection this with this
   injection this with this
   rw [this,zaz,yq]
  ·cases h
 ·obtain ⟨ei,_⟩:=zA hi
  split at h
  ·rename_i hm
   injection h with h
   subst h
   simp only [zf,zw] at hx
   obtain ⟨b,oo,h1,h2⟩:=hx
   refine ⟨_,key _ _ _ h1 ei hm,?_⟩
   simp only [zf,zw]
   exact ⟨b,oo,by rw [zaz,yq],h2⟩
  ·cases h
 ·cases h
end
end Go.A

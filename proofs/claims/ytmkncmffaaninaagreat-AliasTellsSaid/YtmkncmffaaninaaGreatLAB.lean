/- A part of the proof of AliasTells. Conditions: none. -/
import Derived.Test.YtmkncmffaaninaaGreatLAA
import Derived.Orders
import Derived.Laws.Entries
import Derived.Laws.Small
import Derived.ChangeKeysEq
import Derived.Deep.MidRow
import Derived.Laws.AppendOwn
set_option linter.all false
open Nat renaming mul_le_mul_right → ya,add_sub_cancel_left → yi,le_refl → yl,add_mul → ym,add_assoc → yu,le_of_not_lt → yA,min_eq_left → yG,zero_add → yH,sub_mul → yI,lt_irrefl → yN,add_zero → yP
open List renaming getElem?_eq_getElem → yb,getElem?_append → yd,length_append → ye,getElem?_range → yf,getElem?_take → yj,getElem?_drop → yk,getElem?_map → yn,getElem?_append_left → yp,eq_nil_of_length_eq_zero → yr,getElem?_set → yw,mem_of_getElem? → yx,take_succ_cons → yy,length_take → yz,getElem?_set_ne → yB,getElem?_append_right → yD,getD_eq_getElem?_getD → yE,range → yJ,mem_cons → yK,getElem_mem → yL,mem_append → yM,all_cons → yO,map_cons → yQ
open Option renaming map_eq_some_iff → yc,bind_eq_some_iff → yg,getD_some → yC,map_some → yF
open Array renaming getElem?_eq_some_iff → yh,getD_eq_getD_getElem? → yo,getElem?_setIfInBounds → yt,getElem?_toList → yv
open Bool renaming and_eq_true → yq
namespace Go.A
def zcD (arr : Array Value) (p : Nat) (us : List Value) : Array Value:=(arr.toList.take p ++ us ++ arr.toList.drop (p + us.length)).toArray
theorem zga {arr : Array Value} {p : Nat} {us : List Value} (h : p + us.length ≤ arr.size) : (zcD arr p us).size = arr.size:=by
 unfold zcD;simp;omega
theorem zgw {arr : Array Value} {p : Nat} {us : List Value} (h : p + us.length ≤ arr.size) (q : Nat) :
  (zcD arr p us)[q]? = if q < p then arr[q]? else if q < p + us.length then us[q - p]? else arr[q]?:=by
 unfold zcD;rw [List.getElem?_toArray,List.append_assoc,yd];have c : (arr.toList.take p).length = p:=by simp; omega
 rw [c]
 by_cases a : q < p
 ·rw [if_pos a,if_pos a,yj,if_pos a,yv]
 ·rw [if_neg a,if_neg a,yd]
  by_cases b : q < p + us.length
  ·rw [if_pos (by omega),if_pos b]
  ·rw [if_neg (by omega),if_neg b,yk,yv]
   congr 1
   omega
theorem zrT {e b cs : List C} {off : Nat} (h : zHw e off cs = some b) : off + cs.length ≤ e.length ∧ b.length = e.length ∧
  ∀ j,b[j]? = if j < off then e[j]? else if j < off + cs.length then cs[j - off]? else e[j]?:=by
 unfold zHw at h;split at h
 ·rename_i d
  injection h with h;subst h;refine ⟨d,by simp; omega,fun j => ?_⟩;rw [yd];have f : (e.take off).length = off:=by simp; omega
  rw [f]
  by_cases a : j < off
  ·rw [if_pos a,if_pos a,yj,if_pos a]
  ·rw [if_neg a,if_neg a,yd]
   by_cases c : j < off + cs.length
   ·rw [if_pos (by omega),if_pos c]
   ·rw [if_neg (by omega),if_neg c,yk]
    congr 1
    omega
 ·cases h
theorem zZ {g : G} {w : World} {σ : zd} : ∀ {cs : List C} {us : List Value},zC g w σ cs us → us.length = cs.length
 | [],us,h => by simp only [zC] at h; simp [h]
 | c :: cs,us,h => by
   simp only [zC] at h;obtain ⟨v,vs,rfl,_,a⟩:=h;simp [zZ a]
theorem ze0 {g : G} {w : World} {σ : zd} : ∀ {cs : List C} {us : List Value},zC g w σ cs us → ∀ {j : Nat} {c : C},cs[j]? = some c → ∃ u,us[j]? = some u ∧ zK g w σ c u
 | [],_,_,j,c,h => by simp at h
 | x :: cs,us,hr,j,c,h => by
   simp only [zC] at hr;obtain ⟨v,vs,rfl,b,a⟩:=hr
   cases j with
   | zero => simp at h; subst h; exact ⟨v,by simp,b⟩
   | succ j => simpa using ze0 a (j:=j) (c:=c) (by simpa using h)
theorem zmt {g : G} {w : World} {σ : zd} : ∀ {cs : List C} {us : List Value},us.length = cs.length → (∀ (j : Nat) (c : C) (u : Value),cs[j]? = some c → us[j]? = some u → zK g w σ c u) → zC g w σ cs us
 | [],us,hl,_ => by simp only [zC]; exact yr (by simpa using hl)
 | c :: cs,[],hl,_ => by simp at hl
 | c :: cs,v :: vs,hl,h => by
   simp only [zC];exact ⟨v,vs,rfl,h 0 c v (by simp) (by simp),zmt (by simpa using hl) fun j c u a hu => h (j + 1) c u (by simpa using a) (by simpa using hu)⟩
theorem apart {i a sz j q : Nat} (h : i ≠ a) (c : j < sz) (b : q < sz) : i * sz + q ≠ a * sz + j:=by
 rcases Nat.lt_or_gt_of_ne h with h | h
 ·have : (i + 1) * sz ≤ a * sz:=ya _ h
  rw [ym] at this;omega
 ·have : (a + 1) * sz ≤ i * sz:=ya _ h
  rw [ym] at this;omega
theorem inside {i n sz q : Nat} (h : i < n) (a : q < sz) : i * sz + q < n * sz:=by
 have : (i + 1) * sz ≤ n * sz:=ya _ h;rw [ym] at this;omega
theorem zCm {i n sz q : Nat} (h : i < n) (a : q ≤ sz) : i * sz + q ≤ n * sz:=by
 have : (i + 1) * sz ≤ n * sz:=ya _ h;rw [ym] at this;omega
section
variable {g : G} {w : World} {σ : zd}
theorem zx3 (R : Rel g w σ) {id s sz i off : Nat} {es : List (List C)} {e N cs : List C} {us : List Value} (p : σ[id]? = some (.cells s sz es)) (E : es[i]? = some e) (Y : zHw e off cs = some N)
  (G : zC g w σ cs us) (h1 : ∀ u ∈ us,u.oneCell' = true) :
  ∃ arr t,w.heap[g.ρ id]? = some (.cells arr t (0,0)) ∧ i * sz + off + us.length ≤ arr.size ∧
    Ext g w σ g (w.setRow (g.ρ id) (zcD arr (i * sz + off) us)) (σ.set id (.cells s sz (es.set i N))) ∧
    Rel g (w.setRow (g.ρ id) (zcD arr (i * sz + off) us)) (σ.set id (.cells s sz (es.set i N))):=by
 have O : es ≠ []:=fun h => by subst h; simp at E
 obtain ⟨D,S,arr,t,I,K,f⟩:=R.ob id _ p O;obtain ⟨aA,hle,B⟩:=zrT Y;have X:=zZ G;have M:=(f i e E).1;have r:=zb E
 have l : i * sz + off + us.length ≤ arr.size:=by
  have:=zCm (q:=off + us.length) r (by omega : off + us.length ≤ sz);omega
 refine ⟨arr,t,I,l,?_⟩;have V : g.ρ id < w.heap.size:=(yh.1 I).1
 refine replace (g':=g) R p (fun b => b = g.ρ id) rfl rfl rfl (by simp) (fun b L ht => ⟨setRow_other w _ _ _ ht,rfl,fun _ h => h⟩)
  (fun b L => ⟨.inl (by rw [L]; exact D),rfl,fun o h => absurd (by rw [L] at h; exact h) (S o)⟩) (fun _ _ _ h => h) (fun _ _ => rfl) (fun _ _ _ => rfl) (fun b o h => by simpa using R.nb b o h) ?_ ?_ ?_ (fun _ _ h => by cases h) ?_
 ·intro U Z W J
  refine .inl ⟨?_,rfl,fun _ Q t0 A => ?_⟩
  ·rw [zG p] at J
   injection J with J;rw [zG (zI p),← J];simp
  ·rw [I] at A
   injection A with A;injection A with A h0t;subst A;subst h0t;exact ⟨_,setRow_heap w _ _ _ _ _ I,zga l⟩
 ·intro es' h; cases h
 ·intro k n h; simp [zpd,p,Ob.fr] at h
 ·intro H P
  refine ⟨D,S,_,t,setRow_heap w _ _ _ _ _ I,by rw [zga l]; simpa using K,fun v x z => ?_⟩;rw [yw] at z
  by_cases y : i = v
  ·subst y
   simp [r] at z;subst z;refine ⟨hle.trans M,fun j c m => ?_⟩;rw [B] at m;rw [zgw l]
   by_cases c1 : j < off
   ·rw [if_pos c1] at m
    obtain ⟨u,a,b,d⟩:=(f i e E).2 j c m;exact ⟨u,by rw [if_pos (by omega)]; exact a,H.zK c u b,d⟩
   ·rw [if_neg c1] at m
    by_cases c2 : j < off + cs.length
    ·rw [if_pos c2] at m
     obtain ⟨u,a,b⟩:=ze0 G m;refine ⟨u,?_,H.zK c u b,h1 u (yx a)⟩;rw [if_neg (by omega),if_pos (by omega),show i * sz + j - (i * sz + off) = j - off from by omega];exact a
    ·rw [if_neg c2] at m
     obtain ⟨u,a,b,d⟩:=(f i e E).2 j c m;exact ⟨u,by rw [if_neg (by omega),if_neg (by omega)]; exact a,H.zK c u b,d⟩
  ·rw [if_neg y] at z
   refine ⟨(f v x z).1,fun j c m => ?_⟩;obtain ⟨u,a,b,d⟩:=(f v x z).2 j c m;have hj : j < sz:=(by have:=zb m; have:=(f v x z).1; omega);refine ⟨u,?_,H.zK c u b,d⟩;rw [zgw l]
   by_cases c1 : v * sz + j < i * sz + off
   ·rw [if_pos c1]; exact a
   ·rw [if_neg c1]
    by_cases c2 : v * sz + j < i * sz + off + us.length
    ·exfalso
     have:=apart (q:=v * sz + j - i * sz) y hj (by omega);omega
    ·rw [if_neg c2]; exact a
def G.setTv (g : G) (t k : Nat) (u : Value) : G:={ g with tv:=fun t' k' => if t' = t ∧ k' = k then u else g.tv t' k' }
theorem G.setTv_same (g : G) (t k : Nat) (u : Value) : (g.setTv t k u).tv t k = u:=by simp [G.setTv]
theorem G.setTv_ne (g : G) {t k a b : Nat} (u : Value) (h : ¬ (a = t ∧ b = k)) : (g.setTv t k u).tv a b = g.tv a b:=by simp [G.setTv,h]
theorem zyH {N : zhv} {xs : List (List Fz)} {b o c sz : Nat} (a : zcC sz xs) (d : xs.length ≤ c) (h : zgY w N sz xs b o) : rep w N (.sl xs) (.slice (some ⟨b,o,none⟩) xs.length c):=by
 simp only [rep];exact ⟨_,c,sz,rfl,d,a,.inr ⟨b,o,rfl,h⟩⟩
def Lay (w : World) (N : zhv) (sz : Nat) (xs : List (List Fz)) (us : List Value) : Prop :=
 us.length = xs.length * sz ∧ zcC sz xs ∧ ∀ i e,xs[i]? = some e → ∀ j x,e[j]? = some x → ∃ u,us[i * sz + j]? = some u ∧ rep w N x u ∧ u.oneCell' = true
theorem Lay.mono {w w' : World} {N d : zhv} {sz : Nat} {xs : List (List Fz)} {us : List Value} (h : Lay w N sz xs us) (H : ziE w w' N d) : Lay w' d sz xs us :=
 ⟨h.1,h.2.1,fun i e f j x g => by
  obtain ⟨u,a,b,c⟩:=h.2.2 i e f j x g
  exact ⟨u,a,zdv H x u b,c⟩⟩
theorem Lay.append {N : zhv} {sz : Nat} {xs ys : List (List Fz)} {us vs : List Value} (h : Lay w N sz xs us) (k : Lay w N sz ys vs) : Lay w N sz (xs ++ ys) (us ++ vs):=by
 refine ⟨by rw [ye,ye,h.1,k.1,ym],zf0 fun e he => ?_,fun i e d j x f => ?_⟩
 ·rcases yM.1 he with he | he
  ·exact zgq h.2.1 e he
  ·exact zgq k.2.1 e he
 ·rw [yd] at d
  by_cases c : i < xs.length
  ·rw [if_pos c] at d
   obtain ⟨u,a,b⟩:=h.2.2 i e d j x f;refine ⟨u,?_,b⟩;rw [yp (zb a)];exact a
  ·rw [if_neg c] at d
   obtain ⟨u,a,b⟩:=k.2.2 _ e d j x f;refine ⟨u,?_,b⟩
   have : i * sz + j = us.length + ((i - xs.length) * sz + j):=by
    rw [h.1,yI];have : xs.length * sz ≤ i * sz:=ya _ (yA c);omega
   rw [this,yD (by omega),yi];exact a
theorem zs6 {N : zhv} {xs : List (List Fz)} {u : Value} (h : rep w N (.sl xs) u) (A : ∀ x u,rep w N x u → u.oneCell' = true) : ∃ a c sz us,u = .slice a xs.length c ∧ xs.length ≤ c ∧ Lay w N sz xs us ∧ (xs = [] ∨ ∃ b o,a = some ⟨b,o,none⟩ ∧ ∀ j v,us[j]? = some v → w.cell? ⟨b,o + j,none⟩ = some v):=by
 simp only [rep] at h;obtain ⟨a,c,sz,e,t,n,m⟩:=h;rcases m with rfl | ⟨b,o,rfl,m⟩
 ·exact ⟨a,c,sz,[],e,t,⟨by simp,n,fun i e h => by simp at h⟩,.inl rfl⟩
 ·refine ⟨_,c,sz,(yJ (xs.length * sz)).map fun j => (w.cell? ⟨b,o + j,none⟩).getD undef,e,t,⟨by simp,n,fun i e k j x f => ?_⟩,.inr ⟨b,o,rfl,fun j v g => ?_⟩⟩
  ·have d:=inside (zb k) (by have:=zb f; have:=zcz n k; omega : j < sz)
   obtain ⟨u,z,p,q⟩:=zie (zgn m k) f;refine ⟨u,?_,q,A x u q⟩;rw [yn,yf d];simp only [yF];rw [show o + (i * sz + j) = o + i * sz + j from by omega,p];rfl
  ·rw [yn] at g
   cases f : (yJ (xs.length * sz))[j]? with
   | none => rw [f] at g; cases g
   | some j' =>
     have d:=zb f;simp at d;rw [yf d] at f;injection f with f;subst f;rw [yf d] at g;simp only [yF] at g
     have l : 0 < sz:=by
      rcases Nat.eq_zero_or_pos sz with r | r
      ·subst r; simp at d
      ·exact r
     have k : j / sz < xs.length:=(Nat.div_lt_iff_lt_mul l).2 d;have f : j % sz < sz:=Nat.mod_lt _ l;have y:=zcz n (yb k);obtain ⟨u,z,p,q⟩:=zie (zgn m (yb k)) (yb (by omega : j % sz < xs[j / sz].length))
     have s : o + j / sz * sz + j % sz = o + j:=by
      have:=Nat.div_add_mod j sz;rw [Nat.mul_comm] at this;omega
     rw [s] at p;rw [p] at g ⊢;exact g
theorem znd {N c : zhv} {w' : World} {sz b o : Nat} {xs : List (List Fz)} {us : List Value} (h : Lay w N sz xs us) (H : ziE w w' N c) (f : ∀ j v,us[j]? = some v → c b (o + j) ∧ w'.cell? ⟨b,o + j,none⟩ = some v) : zgY w' c sz xs b o :=
 zhd fun i e d => zjK fun j x g => by
  obtain ⟨u,a,k,_⟩:=h.2.2 i e d j x g;obtain ⟨c1,c2⟩:=f _ u a;rw [show o + (i * sz + j) = o + i * sz + j from by omega] at c1 c2;exact ⟨u,c1,c2,zdv H x u k⟩
end
section
variable {g : G} {w : World} {σ : zd}
theorem zm4 {w : World} {b i : Nat} {arr a : Array Value} {t : TypeId} (h : w.heap[b]? = some (.cells arr t (0,0))) : (w.setRow b a).cell? ⟨b,i,none⟩ = a[i]?:=cell_setRow_same w b i arr a t (0,0) h
theorem zju {w : World} {b i : Nat} {arr : Array Value} {t : TypeId} {fr : Nat × Nat} (h : w.heap[b]? = some (.cells arr t fr)) : w.cell? ⟨b,i,none⟩ = arr[i]?:=by simp [World.cell?,h]
theorem zs4 {g' : G} {w' : World} {t k n sz : Nat} {fr : List Nat} (R : Rel g w σ) (x : σ[t]? = some (.tok sz fr)) (i : ∀ k',k' ≠ k → g'.tv t k' = g.tv t k') (d : ∀ b k',b < w.heap.size → g.ow b = .tk t k' → k' ≠ k → zwJ g w g' w' b)
  (u : ∀ n',(fr.set k n)[k]? = some n' → (n' = 0 ∧ ∃ a,g'.tv t k = .slice a 0 0) ∨
   ∃ b o c arr ty,g'.tv t k = .slice (some ⟨b,o,none⟩) n' c ∧ 0 < c ∧ n' ≤ c ∧ g'.ow b = .tk t k ∧ w'.heap[b]? = some (.cells arr ty (0,0)) ∧ o + c * sz ≤ arr.size ∧ ∀ o',g'.N b o' → o' < o + n' * sz) : zET g' w' (σ.set t (.tok sz (fr.set k n))) t (.tok sz (fr.set k n)):=by
 intro k' n' h
 by_cases e : k' = k
 ·subst e; exact u n' h
 ·rw [yB (Ne.symm e)] at h
  rw [i k' e];rcases R.ob t _ x k' n' h with h | ⟨b,o,c,arr,ty,y,s,v,l,j,r,p⟩
  ·exact .inl h
  ·obtain ⟨q,z,m⟩:=d b k' (yh.1 j).1 l e
   exact .inr ⟨b,o,c,arr,ty,y,s,v,z.trans l,q.trans j,r,fun o' f => p o' (m o' f)⟩
theorem zkG {t k n a sz : Nat} {fr : List Nat} (c : σ[t]? = some (.tok sz fr)) (b : fr[k]? = some n) : zpd (σ.set t (.tok sz (fr.set k a))) t k = some a:=by
 refine zfr (zI c) ?_;rw [yw];simp [zb b]
theorem zGA (R : Rel g w σ) {t k sz b o c : Nat} {fr : List Nat} {xs ys : List (List Fz)} {vs : List Value} (m : σ[t]? = some (.tok sz fr)) (B : fr[k]? = some xs.length) (hu : g.tv t k = .slice (some ⟨b,o,none⟩) xs.length c)
  (aB : 0 < xs.length + ys.length) (Y : rep w g.N (.sl xs) (.slice (some ⟨b,o,none⟩) xs.length c)) (J : zcC sz xs) (I : Lay w g.N sz ys vs) (f : xs.length + ys.length ≤ c) :
  ∃ arr ty g',w.heap[b]? = some (.cells arr ty (0,0)) ∧ o + xs.length * sz + vs.length ≤ arr.size ∧
    Ext g w σ g' (w.setRow b (zcD arr (o + xs.length * sz) vs)) (σ.set t (.tok sz (fr.set k (xs.length + ys.length)))) ∧
    Rel g' (w.setRow b (zcD arr (o + xs.length * sz) vs)) (σ.set t (.tok sz (fr.set k (xs.length + ys.length)))) ∧
    zK g' (w.setRow b (zcD arr (o + xs.length * sz) vs)) (σ.set t (.tok sz (fr.set k (xs.length + ys.length)))) (.ap t k (xs ++ ys)) (.slice (some ⟨b,o,none⟩) (xs.length + ys.length) c):=by
 have C:=R.ob t _ m k _ B;rcases C with ⟨h0,a0,r⟩ | ⟨b',o',c',arr,ty,A,_,h3,P,z,h6,V⟩
 ·rw [hu] at r
  injection r with _ _ r;omega
 rw [hu] at A;injection A with A _ h1c;injection A with A;injection A with h1a h1b;subst h1a h1b h1c;have hm : (xs.length + ys.length) * sz ≤ c * sz:=ya _ f;rw [ym] at hm;have l : o + xs.length * sz + vs.length ≤ arr.size:=by rw [I.1]; omega
 have L : b < w.heap.size:=(yh.1 z).1
 let g' : G:={ g.setTv t k (.slice (some ⟨b,o,none⟩) (xs.length + ys.length) c) with N:=fun b1 a => g.N b1 a ∨ (b1 = b ∧ o + xs.length * sz ≤ a ∧ a < o + (xs.length + ys.length) * sz) }
 have s : ∀ a,g.N b a → (w.setRow b (zcD arr (o + xs.length * sz) vs)).cell? ⟨b,a,none⟩ = w.cell? ⟨b,a,none⟩:=fun a h => by
  rw [zm4 z,zju z,zgw l,if_pos (V a h)]
 have Q:=replace (g':=g') (w':=w.setRow b (zcD arr (o + xs.length * sz) vs)) (new:=.tok sz (fr.set k (xs.length + ys.length))) R m (fun b1 => b1 = b) rfl rfl rfl (by simp)
  (fun b1 n M => ⟨setRow_other w _ _ _ M,rfl,fun a h => h.elim id fun h => absurd h.1 M⟩)
  (fun b1 n => ⟨.inr ⟨k,by rw [n]; exact P⟩,rfl,fun a h => ⟨.inl h,by subst n; exact s a h⟩⟩)
  (fun b1 a _ h => .inl h) (fun _ _ => rfl) (fun j y O => G.setTv_ne g _ (by simp [O])) (fun b1 a h => by
   rw [setRow_size];rcases h with h | h
   ·exact R.nb b1 a h
   ·rw [h.1]; exact L)
  (fun X aA Z hs => by simp [shapeOf,m,Ob.shape] at hs) (fun es h => by cases h)
  (fun y W h => by
   by_cases e : y = k
   ·subst e
    rw [zfr m B] at h;injection h with h;subst h;refine ⟨_,zkG m B,by omega,fun e => ?_⟩;have : ys.length = 0:=by omega
    show (g.setTv t y _).tv t y = _
    rw [G.setTv_same,hu,this];rfl
   ·obtain ⟨E,aD,q,U⟩:=zee h
    rw [m] at q;injection q with q;injection q with q k1';subst q k1'
    exact ⟨W,zfr (zI m) (by rw [yB (Ne.symm e)]; exact U),yl _,fun _ => G.setTv_ne g _ (by simp [e])⟩)
  (fun _ _ h => by injection h with h _; exact ⟨_,by rw [h]⟩)
  (fun H => zs4 R m (fun y e => G.setTv_ne g _ (by simp [e]))
   (fun b1 y n d K => ⟨setRow_other w _ _ _ (fun e => by subst e; rw [P] at d; injection d with _ d; exact K d.symm),rfl,fun a h => h.elim id fun h => by
    exfalso;rw [h.1,P] at d;injection d with _ d
    exact K d.symm⟩)
   (fun W v => by
    rw [yw] at v;simp [zb B] at v;subst v
    exact .inr ⟨b,o,c,_,ty,G.setTv_same _ _ _ _,by omega,f,P,setRow_heap w _ _ _ _ _ z,by rw [zga l]; exact h6,fun a h => by
     rcases h with h | h
     ·have:=V a h
      rw [ym];omega
     ·exact h.2.2⟩))
 obtain ⟨S,Q⟩:=Q;refine ⟨arr,ty,g',z,l,S,Q,?_⟩;simp only [zK]
 have hl : zcC sz (xs ++ ys):=zf0 fun e he => by
  rcases yM.1 he with he | he
  ·exact zgq J e he
  ·exact zgq I.2.1 e he
 refine ⟨?_,xs.length + ys.length,zkG m B,by simp,fun _ => (G.setTv_same _ _ _ _).symm,sz,zdy (zI m),hl⟩;have:=zyH (w:=w.setRow b (zcD arr (o + xs.length * sz) vs)) (N:=g'.N) (b:=b) (o:=o) (c:=c) hl (by simpa using f) (zhd fun i e p => ?_)
 ·simpa using this
 ·rw [yd] at p
  by_cases ci : i < xs.length
  ·rw [if_pos ci] at p
   simp only [rep] at Y;obtain ⟨a1,c1,E,e1,e2,e3,e4⟩:=Y;rcases e4 with e4 | ⟨b1,a,e4,e5⟩
   ·rw [e4] at ci; simp at ci
   ·injection e1 with e1 _ e1c
    rw [e4] at e1;injection e1 with e1;injection e1 with e1a e1b;subst e1a e1b;have D : E = sz:=(by rw [← zcz e3 p,zcz J p]);subst D;exact zgi S.keeps _ _ _ (zgn e5 p)
  ·rw [if_neg ci] at p
   refine zjK fun j x O => ?_;obtain ⟨u,q,U,_⟩:=I.2.2 _ e p j x O;have aC:=inside (zb p) (by have:=zb O; have:=zcz I.2.1 p; omega : j < sz)
   have e1 : o + i * sz + j = o + xs.length * sz + ((i - xs.length) * sz + j):=by
    rw [yI];have : xs.length * sz ≤ i * sz:=ya _ (yA ci);omega
   refine ⟨u,.inr ⟨rfl,by omega,by rw [ym]; omega⟩,?_,zdv S.keeps x u U⟩;rw [zm4 z,zgw l,if_neg (by omega),if_pos (by rw [I.1]; omega),e1,yi];exact q
theorem drawn (R : Rel g w σ) (m : Nat) : Ext g w σ g (w.drewN m) σ ∧ Rel g (w.drewN m) σ:=by
 have H : Ext g w σ g (w.drewN m) σ:={
  os:=rfl
  tape:=rfl
  output:=rfl
  size:=yl _
  keeps:=fun _ _ h => ⟨h,rfl⟩
  len:=yl _
  shape:=fun id a sz len h => .inl ⟨h,rfl,fun _ arr t b => ⟨arr,b,rfl⟩⟩
  map:=fun id es h => ⟨rfl,es,h⟩
  tok:=fun t k n h => ⟨n,h,yl _,fun _ => rfl⟩
  tsz:=fun _ _ h => h
  ow:=fun _ _ => rfl
  new:=fun _ _ h _ _ => h
  frame:=fun _ _ _ => rfl }
 exact ⟨H,⟨R.nb,fun id o h => zdb H rfl (fun _ => rfl) (fun _ _ _ => ⟨rfl,rfl,fun _ h => h⟩) (R.ob id o h)⟩⟩
theorem zGt (R : Rel g w σ) {t k sz c : Nat} {e : TypeId} {fr : List Nat} {xs ys : List (List Fz)} {us vs : List Value} {arr : Array Value} (f : σ[t]? = some (.tok sz fr)) (x : fr[k]? = some xs.length)
  (S : Lay w g.N sz xs us) (O : Lay w g.N sz ys vs) (W : 0 < xs.length + ys.length) (J : xs.length + ys.length ≤ c) (a : ∃ rest,arr.toList = us ++ vs ++ rest) (D : arr.size = c * sz) (C : 0 < ys.length) :
  ∃ g',Ext g w σ g' (w.alloc (.cells arr e)) (σ.set t (.tok sz (fr.set k (xs.length + ys.length)))) ∧
    Rel g' (w.alloc (.cells arr e)) (σ.set t (.tok sz (fr.set k (xs.length + ys.length)))) ∧
    zK g' (w.alloc (.cells arr e)) (σ.set t (.tok sz (fr.set k (xs.length + ys.length)))) (.ap t k (xs ++ ys)) (.slice (some ⟨w.heap.size,0,none⟩) (xs.length + ys.length) c):=by
 obtain ⟨rest,a⟩:=a;have d:=S.append O;have r:=zaZ w (.cells arr e)
 let g' : G:={ g.setTv t k (.slice (some ⟨w.heap.size,0,none⟩) (xs.length + ys.length) c) with ow:=zxe g.ow w.heap.size (.tk t k),N:=fun b1 p => g.N b1 p ∨ (b1 = w.heap.size ∧ p < (xs.length + ys.length) * sz) }
 have y : ∀ b,b < w.heap.size → g'.ow b = g.ow b:=fun b l => zaC g.ow (k:=w.heap.size) (i:=b) _ (by omega);have q : ∀ b,b < w.heap.size → zwJ g w g' (w.alloc (.cells arr e)) b:=fun b l => ⟨heap_alloc_old w _ l,y b l,fun o h => h.elim id fun h => by omega⟩
 have A:=replace (g':=g') (w':=w.alloc (.cells arr e)) (new:=.tok sz (fr.set k (xs.length + ys.length))) R f (fun _ => False) rfl rfl rfl (by rw [size_alloc]; omega)
  (fun b l _ => q b l) (fun b l => l.elim) (fun b1 p _ h => .inl h) (fun _ _ => rfl) (fun j u s => G.setTv_ne g _ (by simp [s]))
  (fun b1 p h => by
   rw [size_alloc];rcases h with h | h
   ·have:=R.nb b1 p h; omega
   ·omega)
  (fun E P I Q => by simp [shapeOf,f,Ob.shape] at Q) (fun es h => by cases h)
  (fun u K h => by
   by_cases e : u = k
   ·subst e
    rw [zfr f x] at h;injection h with h;subst h;exact ⟨_,zkG f x,by omega,fun e => by omega⟩
   ·obtain ⟨M,V,n,U⟩:=zee h
    rw [f] at n;injection n with n;injection n with n k1';subst n k1'
    exact ⟨K,zfr (zI f) (by rw [yB (Ne.symm e)]; exact U),yl _,fun _ => G.setTv_ne g _ (by simp [e])⟩)
  (fun _ _ h => by injection h with h _; exact ⟨_,by rw [h]⟩)
  (fun H => zs4 R f (fun u e => G.setTv_ne g _ (by simp [e])) (fun b1 u z _ _ => q b1 z)
   (fun K m => by
    rw [yw] at m;simp [zb x] at m;subst m;refine .inr ⟨w.heap.size,0,c,arr,e,G.setTv_same _ _ _ _,by omega,J,ze1 _ _ _,r,by rw [D]; omega,fun p h => ?_⟩;rcases h with h | h
    ·exact absurd (R.nb _ _ h) (yN _)
    ·have:=h.2; omega))
 obtain ⟨L,A⟩:=A;refine ⟨g',L,A,?_⟩;simp only [zK];refine ⟨?_,xs.length + ys.length,zkG f x,by simp,fun _ => (G.setTv_same _ _ _ _).symm,sz,zdy (zI f),d.2.1⟩;have:=zyH (w:=w.alloc (.cells arr e)) (N:=g'.N) (b:=w.heap.size) (o:=0) (c:=c) d.2.1 (by simpa using J) (znd d L.keeps fun j v s => ?_)
 ·simpa using this
 ·have B:=zb s
  rw [d.1,ye] at B;refine ⟨.inr ⟨rfl,by omega⟩,?_⟩;rw [yH,zju r,← yv,a,yp (zb s)];exact s
theorem zE8 (R : Rel g w σ) {id e sz n c : Nat} {es ys : List (List C)} {vs : List Value} {a : Option Addr} (l : σ[id]? = some (.cells e sz es)) (v : es ≠ []) (hu : zDz w (g.ρ id) sz es.length 0 n (.slice a n c))
  (J : vs.length = ys.length * sz) (G : zeg g w σ vs.toArray sz ys) (q : n + ys.length ≤ c) (Z : 0 < n + ys.length) :
  ∃ arr ty,a = some ⟨g.ρ id,0,none⟩ ∧ w.heap[g.ρ id]? = some (.cells arr ty (0,0)) ∧ n * sz + vs.length ≤ arr.size ∧
    Ext g w σ g (w.setRow (g.ρ id) (zcD arr (n * sz) vs)) (σ.set id (.cells (e + 1) sz (es.take n ++ ys))) ∧
    Rel g (w.setRow (g.ρ id) (zcD arr (n * sz) vs)) (σ.set id (.cells (e + 1) sz (es.take n ++ ys))) ∧
    zK g (w.setRow (g.ρ id) (zcD arr (n * sz) vs)) (σ.set id (.cells (e + 1) sz (es.take n ++ ys))) (.own id (e + 1) 0 (n + ys.length)) (.slice a (n + ys.length) c):=by
 obtain ⟨a',c',e1,e2,e3,e4⟩:=hu;injection e1 with e1 _ e1c;subst e1 e1c;have r : es.length ≠ 0:=fun h => v (yr h);obtain ⟨f1,f2,arr,ty,f3,f4⟩:=e4 r;obtain ⟨t,N,f,s,z,Y,m⟩:=R.ob id _ l v;rw [z] at f3;injection f3 with f3;injection f3 with f3 f3t;subst f3 f3t;have hm : (n + ys.length) * sz ≤ c * sz:=ya _ q;have d : n * sz + vs.length ≤ f.size:=by rw [J]; rw [ym] at hm; rw [yH] at f4; omega
 have P : g.ρ id < w.heap.size:=(yh.1 z).1
 have I:=replace (g':=g) (w':=w.setRow (g.ρ id) (zcD f (n * sz) vs)) (new:=.cells (e + 1) sz (es.take n ++ ys)) R l (fun b => b = g.ρ id) rfl rfl rfl (by simp)
  (fun b D W => ⟨setRow_other w _ _ _ W,rfl,fun _ h => h⟩)
  (fun b D => ⟨.inl (by rw [D]; exact t),rfl,fun o h => absurd (by rw [D] at h; exact h) (N o)⟩) (fun _ _ _ h => h) (fun _ _ => rfl) (fun _ _ _ => rfl) (fun b o h => by simpa using R.nb b o h)
  (fun O S Q A => by
   rw [zG l] at A;injection A with A;injection A with hs1 hs2;injection hs2 with hs2 hs3
   exact .inr ⟨e + 1,_,by rw [zG (zI l),hs2],by omega⟩)
  (fun es' h => by cases h) (fun k n h => by simp [zpd,l,Ob.fr] at h)
  (fun _ _ h => by cases h) (fun H M => by
   refine ⟨t,N,_,s,setRow_heap w _ _ _ _ _ z,?_,fun i x p => ?_⟩
   ·rw [zga d,ye,yz,yG (by omega)]
    rw [yH] at f4;omega
   ·rw [yd] at p
    have X : (es.take n).length = n:=(by rw [yz]; omega);rw [X] at p
    by_cases ci : i < n
    ·rw [if_pos ci,yj,if_pos ci] at p
     refine ⟨(m i x p).1,fun j c y => ?_⟩;obtain ⟨u,E,L,B⟩:=(m i x p).2 j c y;have K : j < sz:=(by have:=zb y; have:=(m i x p).1; omega);exact ⟨u,by rw [zgw d,if_pos (inside ci K)]; exact E,H.zK c u L,B⟩
    ·rw [if_neg ci] at p
     refine ⟨(G _ x p).1,fun j c y => ?_⟩;obtain ⟨u,E,L,B⟩:=(G _ x p).2 j c y;have K : j < sz:=(by have:=zb y; have:=(G _ x p).1; omega);have U:=inside (zb p) K
     have e1 : i * sz + j = n * sz + ((i - n) * sz + j):=by
      rw [yI];have : n * sz ≤ i * sz:=ya _ (yA ci);omega
     refine ⟨u,?_,H.zK c u L,B⟩;rw [zgw d,if_neg (by omega),if_pos (by omega),e1,yi]
     simpa using E)
 obtain ⟨V,I⟩:=I;refine ⟨f,s,by simpa using f2 (by omega),z,d,V,I,?_⟩;simp only [zK];refine ⟨e + 1,sz,_,zG (zI l),yl _,fun _ => ⟨a,c,rfl,q,fun h => ?_,fun _ => ⟨?_,f2,zcD f (n * sz) vs,s,setRow_heap w _ _ _ _ _ z,?_⟩⟩,_,_,rfl⟩
 ·rw [ye,yz,yG (by omega)] at h
  omega
 ·rw [ye,yz,yG (by omega)]
  omega
 ·rw [zga d]; exact f4
theorem zGm (R : Rel g w σ) {id a sz n c : Nat} {e : TypeId} {es ys : List (List C)} {us vs : List Value} {arr : Array Value} (l : σ[id]? = some (.cells a sz es)) (Y : n ≤ es.length)
  (A : us.length = n * sz) (Q : zeg g w σ us.toArray sz (es.take n)) (U : vs.length = ys.length * sz) (N : zeg g w σ vs.toArray sz ys) (r : n + ys.length ≤ c) (X : 0 < n + ys.length)
  (f : ∃ rest,arr.toList = us ++ vs ++ rest) (v : arr.size = c * sz) :
  ∃ g',Ext g w σ g' (w.alloc (.cells arr e)) (σ.set id (.cells (a + 1) sz (es.take n ++ ys))) ∧
    Rel g' (w.alloc (.cells arr e)) (σ.set id (.cells (a + 1) sz (es.take n ++ ys))) ∧
    zK g' (w.alloc (.cells arr e)) (σ.set id (.cells (a + 1) sz (es.take n ++ ys))) (.own id (a + 1) 0 (n + ys.length)) (.slice (some ⟨w.heap.size,0,none⟩) (n + ys.length) c):=by
 obtain ⟨rest,f⟩:=f;have t:=zaZ w (.cells arr e);have z : (es.take n).length = n:=by rw [yz]; omega
 let g' : G:=g.own id w.heap.size
 have B : ∀ b,b < w.heap.size → g'.ow b = g.ow b:=fun b p => zaC g.ow (k:=w.heap.size) (i:=b) _ (by omega);have I : ∀ b,b < w.heap.size → zwJ g w g' (w.alloc (.cells arr e)) b:=fun b p => ⟨heap_alloc_old w _ p,B b p,fun o h => h⟩
 have m : ∀ q u,(us ++ vs)[q]? = some u → arr[q]? = some u:=fun q u h => by
  rw [← yv,f,yp (zb h)];exact h
 have J:=replace (g':=g') (w':=w.alloc (.cells arr e)) (new:=.cells (a + 1) sz (es.take n ++ ys)) R l (fun _ => False) rfl rfl rfl (by rw [size_alloc]; omega)
  (fun b p _ => I b p) (fun b p => p.elim) (fun b1 O _ h => h) (fun j W => zaC g.ρ (k:=id) (i:=j) _ W) (fun _ _ _ => rfl)
  (fun b1 O h => by rw [size_alloc]; have:=R.nb b1 O h; omega)
  (fun M S P y => by
   rw [zG l] at y;injection y with y;injection y with hs1 hs2;injection hs2 with hs2 hs3
   exact .inr ⟨a + 1,_,by rw [zG (zI l),hs2],by omega⟩)
  (fun es' h => by cases h) (fun k n h => by simp [zpd,l,Ob.fr] at h)
  (fun _ _ h => by cases h) (fun H L => by
   refine ⟨by simp [g',G.own],fun o h => absurd (R.nb _ _ (by simpa [g',G.own] using h)) (yN _),arr,e,by simpa [g',G.own] using t,?_,fun i x d => ?_⟩
   ·rw [v,ye,z]
    exact ya _ r
   ·rw [yd,z] at d
    by_cases ci : i < n
    ·rw [if_pos ci] at d
     refine ⟨(Q i x d).1,fun j c r => ?_⟩;obtain ⟨u,E,K,D⟩:=(Q i x d).2 j c r;refine ⟨u,m _ u ?_,H.zK c u K,D⟩;have s : us[i * sz + j]? = some u:=(by simpa using E);rw [yp (zb s)];exact s
    ·rw [if_neg ci] at d
     refine ⟨(N _ x d).1,fun j c r => ?_⟩;obtain ⟨u,E,K,D⟩:=(N _ x d).2 j c r;refine ⟨u,m _ u ?_,H.zK c u K,D⟩
     have e1 : i * sz + j = us.length + ((i - n) * sz + j):=by
      rw [A,yI];have : n * sz ≤ i * sz:=ya _ (yA ci);omega
     rw [e1,yD (by omega),yi]
     simpa using E)
 obtain ⟨V,J⟩:=J;refine ⟨g',V,J,?_⟩;simp only [zK];refine ⟨a + 1,sz,_,zG (zI l),yl _,fun _ => ⟨_,c,rfl,r,fun h => ?_,fun _ => ⟨?_,fun _ => by simp [g',G.own],arr,e,by simpa [g',G.own] using t,by rw [v,yH]; exact yl _⟩⟩,_,_,rfl⟩
 ·rw [ye,z] at h
  omega
 ·rw [ye,z]
  omega
theorem map_set (R : Rel g w σ) {id clock clock' : Nat} {es es' : List (Int × V)} {z8 ents' : Array MapEntry} (a : σ[id]? = some (.mp es)) (q : w.heap[g.ρ id]? = some (.map z8 clock))
  (hm : ∀ {g' : G} {w' : World} {σ' : zd},Ext g w σ g' w' σ' → znG g' w' σ' es' ents'.toList clock') :
  Ext g w σ g { w with heap:=w.heap.setIfInBounds (g.ρ id) (.map ents' clock') } (σ.set id (.mp es')) ∧ Rel g { w with heap:=w.heap.setIfInBounds (g.ρ id) (.map ents' clock') } (σ.set id (.mp es')):=by
 obtain ⟨c,f,_,_,_,_⟩:=R.ob id _ a;have d : g.ρ id < w.heap.size:=(yh.1 q).1
 refine replace (g':=g) R a (fun b => b = g.ρ id) rfl rfl rfl (by simp) (fun b e m => ⟨?_,rfl,fun _ h => h⟩)
  (fun b e => ⟨.inl (by rw [e]; exact c),rfl,fun o h => absurd (by rw [e] at h; exact h) (f o)⟩) (fun _ _ _ h => h) (fun _ _ => rfl) (fun _ _ _ => rfl) (fun b o h => by simpa using R.nb b o h)
  (fun i l j p => by simp [shapeOf,a,Ob.shape] at p) (fun r h => ⟨rfl,es',rfl⟩) (fun k n h => by simp [zpd,a,Ob.fr] at h)
  (fun _ _ h => by cases h) (fun H => ⟨c,f,ents',clock',?_,hm H⟩)
 ·simp only [yt]
  rw [if_neg (Ne.symm m)]
 ·simp only [yt]
  simp [d]
end
def zEm : Value → Value → Bool
 | .bool a,.bool b => a == b
 | .int k a,.int k' b => decide (k = k') && decide (a = b)
 | .string a,.string b => decide (a = b)
 | .pointer none,.pointer none => true
 | .map none,.map none => true
 | .nilFunc,.nilFunc => true
 | .slice none 0 0,.slice none 0 0 => true
 | _,_ => false
theorem zv8 {u v : Value} (h : zEm u v = true) : u = v ∧ zEs v = true:=by
 unfold zEm at h;split at h <;> simp_all [zEs]
def zy0 : Value → C → Bool
 | .slice none 0 0,.f (.sl []) => true
 | v,.f (.lit v') => zEm v v'
 | _,_ => false
def zg7 : List Value → List C → Bool
 | [],[] => true
 | v :: vs,c :: cs => zy0 v c && zg7 vs cs
 | _,_ => false
def zr4 : Value → V → Bool
 | .agg us,.agg cs => zg7 us.toList cs
 | v,.one c => zy0 v c
 | _,_ => false
section
variable {g : G} {w : World} {σ : zd}
theorem zp4 {v : Value} {c : C} (h : zy0 v c = true) : zK g w σ c v ∧ v.oneCell' = true:=by
 unfold zy0 at h;split at h
 ·refine ⟨?_,rfl⟩
  rw [zK,rep];exact ⟨none,0,0,rfl,yl _,by simp only [zcC],.inl rfl⟩
 ·obtain ⟨e,a⟩:=zv8 h
  subst e;refine ⟨by rw [zK,rep]; exact ⟨rfl,a⟩,?_⟩;cases v <;> simp_all [zEs,Value.oneCell']
 ·cases h
theorem zbg : ∀ {vs : List Value} {cs : List C},zg7 vs cs = true → zC g w σ cs vs ∧ ∀ v ∈ vs,v.oneCell' = true
 | [],[],_ => by simp [zC]
 | v :: vs,c :: cs,h => by
   simp only [zg7,yq] at h;obtain ⟨a,e⟩:=zp4 (g:=g) (w:=w) (σ:=σ) h.1;obtain ⟨b,d⟩:=zbg h.2;refine ⟨by simp only [zC]; exact ⟨v,vs,rfl,a,b⟩,fun u hu => ?_⟩;rcases yK.1 hu with rfl | hu
   ·exact e
   ·exact d u hu
 | [],_ :: _,h => by simp [zg7] at h
 | _ :: _,[],h => by simp [zg7] at h
theorem zgD {v : Value} {x : V} (h : zr4 v x = true) : zh g w σ x v:=by
 unfold zr4 at h;split at h
 ·rename_i us cs
  simp only [zh];exact ⟨us,rfl,(zbg h).1⟩
 ·simp only [zh]
  exact (zp4 h).1
 ·cases h
end
def okX (κ : List Tmp) (loc : List (Option Tmp)) : Operand → X → Bool
 | .tmp t,.s i => κ[i]? == some t
 | .tmp t,.l d => loc[d]? == some (some t) && (loc.take d).all (· != some t)
 | .const v,.c x => zr4 v x
 | .func f,.c (.one (.fn f' [] [])) => f == f'
 | _,_ => false
structure Fr (κ : List Tmp) (loc : List (Option Tmp)) (nt : Nat) (g : G) (w : World) (r : R) (a : Act) : Prop where
 size : a.tmps.size = nt
 len : r.env.length = κ.length
 env : ∀ (i : Nat) (t : Tmp),κ[i]? = some t → zh g w r.st (r.env.getD i vun) (a.tmps.getD t undef)
 lc : ∀ (d : Nat) (t : Tmp),loc[d]? = some (some t) → (loc.take d).all (· != some t) = true → zh g w r.st (r.rs.getD d vun) (a.tmps.getD t undef)
 lk : ∀ (d : Nat) (t : Tmp),loc[d]? = some (some t) → t ∉ κ
 nd : κ.Nodup
 bd : ∀ t ∈ κ,t < nt
 df : a.defers = []
section
variable {κ : List Tmp} {loc : List (Option Tmp)} {nt : Nat} {g : G} {w : World} {r : R} {a : Act}
theorem Fr.get (F : Fr κ loc nt g w r a) {x : Operand} {y : X} (h : okX κ loc x y = true) : zh g w r.st (r.get y) (a.eval x):=by
 unfold okX at h;split at h
 ·exact F.env _ _ (by simpa using h)
 ·simp only [yq,beq_iff_eq] at h
  exact F.lc _ _ h.1 h.2
 ·exact zgD h
 ·rename_i f f'
  have e : f = f':=by simpa using h
  subst e;simp only [R.get,Act.eval,zh,zK];exact ⟨_,_,rfl,by simp [zC],by simp [zC]⟩
 ·cases h
theorem Fr.ext {g' : G} {w' : World} {r' : R} (F : Fr κ loc nt g w r a) (H : Ext g w r.st g' w' r'.st) (he : r'.env = r.env) (c : r'.rs = r.rs) : Fr κ loc nt g' w' r' a :=
 ⟨F.size,by rw [he]; exact F.len,fun i t h => by rw [he]; exact H.zh _ _ (F.env i t h),fun d t h b => by rw [c]; exact H.zh _ _ (F.lc d t h b),F.lk,F.nd,F.bd,F.df⟩
def okD (κ : List Tmp) (nt : Nat) : Option Tmp → D → Bool
 | none,.no => true
 | some t,.loc => !κ.contains t && decide (t < nt)
 | some t,.slot i => κ[i]? == some t
 | _,_ => false
def zbE : Option Tmp → D → Option Tmp
 | some t,.loc => some t
 | _,_ => none
theorem zjg {b : Array Value} {t a : Nat} {u : Value} : (b.setIfInBounds t u).getD a undef = if t = a ∧ t < b.size then u else b.getD a undef:=by
 simp only [yo,yt]
 by_cases h : t = a
 ·subst h
  by_cases c : t < b.size <;> simp [c]
 ·simp [h]
theorem zjt {α : Type} (x : α) (l : List α) (d : Nat) (z : α) : (x :: l).getD (d + 1) z = l.getD d z:=by simp
theorem Fr.put (F : Fr κ loc nt g w r a) {t : Option Tmp} {d : D} (h : okD κ nt t d = true) {v : V} {u : Value} (s : d ≠ .no → zh g w r.st v u) : Fr κ (zbE t d :: loc) nt g w (r.put d v) (a.put t u):=by
 unfold okD at h;split at h
 ·
  refine ⟨F.size,F.len,F.env,fun c f b k => ?_,fun c f b => ?_,F.nd,F.bd,F.df⟩
  ·cases c with
   | zero => simp [zbE] at b
   | succ c =>
     simp only [R.put,zjt];exact F.lc c f (by simpa using b) (by simpa [yy,zbE] using k)
  ·cases c with
   | zero => simp [zbE] at b
   | succ c => exact F.lk c f (by simpa using b)
 ·
  rename_i t;simp only [yq,Bool.not_eq_true',decide_eq_true_eq] at h;have q : t ∉ κ:=by simpa using h.1
  have p : t < a.tmps.size:=by rw [F.size]; exact h.2
  refine ⟨by simp [Act.put,F.size],F.len,fun i f b => ?_,fun c f b k => ?_,fun c f b => ?_,F.nd,F.bd,F.df⟩
  ·have j : t ≠ f:=fun e => q (by rw [e]; exact yx b)
   simp only [Act.put,zjg,j,false_and,if_false];exact F.env i f b
  ·cases c with
   | zero =>
     simp [zbE] at b;subst b;simp only [Act.put,zjg,p,and_self,if_true];exact s (by simp)
   | succ c =>
     have j : t ≠ f:=fun e => by
      subst e;simp [yy,zbE] at k
     simp only [Act.put,zjg,j,false_and,if_false,R.put,zjt];refine F.lc c f (by simpa using b) ?_;rw [yy,yO,yq] at k;exact k.2
  ·cases c with
   | zero => simp [zbE] at b; subst b; exact q
   | succ c => exact F.lk c f (by simpa using b)
 ·
  rename_i t i;have l : κ[i]? = some t:=by simpa using h
  have p : t < a.tmps.size:=by rw [F.size]; exact F.bd t (yx l)
  have o : i < r.env.length:=by rw [F.len]; exact zb l
  refine ⟨by simp [Act.put,F.size],by simp [R.put,F.len],fun n f b => ?_,fun c f b k => ?_,fun c f b => ?_,F.nd,F.bd,F.df⟩
  ·simp only [Act.put,zjg,R.put,yE,yw]
   by_cases e : t = f
   ·subst e
    have : i = n:=(List.getElem?_inj (zb l) F.nd).1 (l.trans b.symm);subst this;simp only [p,and_self,if_true,o,yC];exact s (by simp)
   ·have : i ≠ n:=fun x => e (by subst x; rw [l] at b; injection b)
    simp only [e,false_and,if_false,this];have:=F.env n f b
    rwa [yE] at this
  ·cases c with
   | zero => simp [zbE] at b
   | succ c =>
     have m : loc[c]? = some (some f):=(by simpa using b);have j : t ≠ f:=fun e => F.lk c f m (by rw [← e]; exact yx l);simp only [Act.put,zjg,j,false_and,if_false,R.put,zjt];refine F.lc c f m ?_;rw [yy,yO,yq] at k;exact k.2
  ·cases c with
   | zero => simp [zbE] at b
   | succ c => exact F.lk c f (by simpa using b)
 ·cases h
end
def zj1 (P : Program) (t : TypeId) : Option Nat:=(P.info? t).map (·.size)
def zmR (P : Program) (t : TypeId) : Option Bool:=(P.underlying t).map fun d => match d with
 | .struct _ | .array _ _ => true
 | _ => false
section
variable {P : Program} {κ : List Tmp} {loc : List (Option Tmp)} {nt : Nat} {g : G} {w : World} {r r' : R} {a : Act} {o : Go.Oper} {d : D} {next : Act → World → Prop} {Q : Exit → Act → World → Prop}
theorem zou {u : Value} {w' : World} (h : (execOp a.eval o).run P w = .ok (.value u) w') (k : next (a.put o.dst u) w') : o.wp P a w next Q:=by
 unfold Oper.wp;rw [h];exact k
theorem zzS {w' : World} (h : (execOp a.eval o).run P w = .ok .skip w') (k : next (a.put o.dst undef) w') : o.wp P a w next Q:=by
 unfold Oper.wp;rw [h];exact k
theorem zfW (r : R) (d : D) (v : V) : (r.put d v).st = r.st:=by cases d <;> rfl
theorem zaf {σ : zd} {v u : Value} (h : zh g w σ (.one (.f (.lit v))) u) : u = v ∧ zEs v = true:=by
 simpa only [zh,zK,rep] using h
theorem zak {σ : zd} {v : Value} (h : zEs v = true) : zh g w σ (.one (.f (.lit v))) v:=by
 rw [zh,zK,rep];exact ⟨rfl,h⟩
theorem zso (op : BinOp) (t : TypeId) (x y : Operand) (f : TypeId) (e : o.op = .binOp op t x y f) {k b : IntKind} {m n : Int} (d : a.eval x = .int k m) (c : a.eval y = .int b n) :
  (execOp a.eval o).run P w = ((do let v ← binOp op t (.int k m) (.int b n); pure (Next.value v) : Sem Next)).run P w:=by
 unfold execOp;simp only [e,d,c,eqGuard];cases op <;> simp
theorem zA4 {op : BinOp} {t : TypeId} {x y : Operand} {f : TypeId} (p : o.op = .binOp op t x y f) {i j v : V} (s : zh g w r.st i (a.eval x)) (l : zh g w r.st j (a.eval y)) (h : zKm op i j = some v) :
  ∃ u,(execOp a.eval o).run P w = .ok (.value u) w ∧ zh g w r.st v u:=by
 unfold zKm at h;split at h
 ·rename_i k m z n
  obtain ⟨ex,_⟩:=zaf s;obtain ⟨ey,_⟩:=zaf l;rw [zso op t x y f p ex ey];split at h
  ·rename_i d
   unfold zEL at h;split at h
   ·rename_i b
    have c : ¬ n < 0:=by omega
    cases op <;> simp [zur] at d <;> simp only [Option.some.injEq] at h <;> subst h <;>
     exact ⟨_,by simp [binOp,Op.shift,c],zak rfl⟩
   ·cases h
  ·rename_i d
   split at h
   ·rename_i q
    subst q;unfold zK7 at h;cases op <;> simp [zur] at d <;> simp only at h
    case quo =>
     split at h
     ·cases h
     ·rename_i b
      injection h with h;subst h;exact ⟨_,by simp [binOp,Op.intDiv,b],zak rfl⟩
    case rem =>
     split at h
     ·cases h
     ·rename_i b
      injection h with h;subst h;exact ⟨_,by simp [binOp,Op.intDiv,b],zak rfl⟩
    case andNot => cases h
    all_goals
     injection h with h;subst h;refine ⟨_,?_,zak rfl⟩;simp [binOp,Op.intArith,Op.intBits,Op.intCmp]
    all_goals (by_cases e : m = n <;> simp [e])
   ·cases h
 ·cases h
theorem zuI {x : Operand} (b : o.op = .move x ∨ o.op = .assign x) : (execOp a.eval o).run P w = .ok (.value (a.eval x)) w:=by
 unfold execOp;rcases b with b | b <;> simp [b]
theorem zAD {c x y : Operand} (j : o.op = .pick c x y) {b e d v : V} (k : zh g w r.st b (a.eval c)) (i : zh g w r.st e (a.eval x)) (f : zh g w r.st d (a.eval y)) (h : zFq e d b = some v) :
  ∃ u,(execOp a.eval o).run P w = .ok (.value u) w ∧ zh g w r.st v u:=by
 unfold zFq at h;split at h
 ·rename_i t
  obtain ⟨ec,_⟩:=zaf k;injection h with h;subst h;refine ⟨if t then a.eval x else a.eval y,?_,?_⟩
  ·unfold execOp
   simp [j,ec,asBool]
  ·cases t
   ·simpa using f
   ·simpa using i
 ·cases h
theorem zBM {op : UnOp} {t : TypeId} {x : Operand} (c : o.op = .unOp op t x) {d v : V} (b : zh g w r.st d (a.eval x)) (h : aun op d = some v) :
  ∃ u,(execOp a.eval o).run P w = .ok (.value u) w ∧ zh g w r.st v u:=by
 unfold aun at h;split at h
 ·obtain ⟨ex,_⟩:=zaf b
  injection h with h;subst h;exact ⟨_,by unfold execOp; simp [c,ex,Op.unary],zak rfl⟩
 ·obtain ⟨ex,_⟩:=zaf b
  injection h with h;subst h;exact ⟨_,by unfold execOp; simp [c,ex,Op.unary,Op.intArith],zak rfl⟩
 ·cases h
theorem zAE {k : IntKind} {s t : TypeId} {x : Operand} (e : o.op = .convert s t x) (b : (P.underlying s).isSome = true) (f : P.underlying t = some (.int k)) {c v : V} (d : zh g w r.st c (a.eval x)) (h : zFU k c = some v) :
  ∃ u,(execOp a.eval o).run P w = .ok (.value u) w ∧ zh g w r.st v u:=by
 unfold zFU at h;split at h
 ·obtain ⟨ex,_⟩:=zaf d
  injection h with h;subst h;obtain ⟨ds,b⟩:=Option.isSome_iff_exists.1 b;exact ⟨_,by unfold execOp; simp [e,ex,convert,run_underlying b,run_underlying f,Conv.intToInt],zak rfl⟩
 ·cases h
theorem zvi {σ : zd} {xs : List (List Fz)} {u : Value} (h : zh g w σ (.one (.f (.sl xs))) u) : rep w g.N (.sl xs) u:=by simpa only [zh,zK] using h
theorem zt4 {σ : zd} {t k : Nat} {xs : List (List Fz)} {u : Value} (h : zh g w σ (.one (.ap t k xs)) u) : rep w g.N (.sl xs) u:=by
 simp only [zh,zK] at h;exact h.1
theorem zmd {N : zhv} {xs : List (List Fz)} {u : Value} (h : rep w N (.sl xs) u) : ∃ a c,u = .slice a xs.length c ∧ xs.length ≤ c:=by
 simp only [rep] at h;obtain ⟨a,c,_,e,b,_⟩:=h;exact ⟨a,c,e,b⟩
theorem zh4 {σ : zd} {id b lo n : Nat} {u : Value} (h : zh g w σ (.one (.own id b lo n)) u) {sz : Nat} {es : List (List C)} (c : σ[id]? = some (.cells b sz es)) : zDz w (g.ρ id) sz es.length lo n u:=by
 simp only [zh,zK] at h;obtain ⟨v0,e,len,a,_,d,_⟩:=h;rw [zG c] at a;injection a with a;injection a with e1 a;injection a with e2 e3;subst e1 e2 e3;exact d rfl
theorem zAF {σ : zd} {v : V} {u : Value} {n : V} (h : zh g w σ v u) (a : zJG v = some n) : ∃ b k c,u = .slice b k c ∧ n = zGN .i64 k:=by
 unfold zJG at a;split at a
 ·simp only [zh,zK] at h
  obtain ⟨_,_,_,_,_,_,b,c,e⟩:=h;injection a with a;exact ⟨b,_,c,e,a.symm⟩
 ·obtain ⟨b,d,e,_⟩:=zmd (zvi h)
  injection a with a;exact ⟨b,_,d,e,a.symm⟩
 ·obtain ⟨b,d,e,_⟩:=zmd (zt4 h)
  injection a with a;exact ⟨b,_,d,e,a.symm⟩
 ·cases a
theorem zB8 {t : TypeId} {x : Operand} {c : Go.Call} (l : o.op = .call c) (m : c.callee = .builtin .len) (d : c.args = #[x]) (f : c.argTypes = #[t]) {e : TypeId} (n : P.underlying t = some (.slice e))
  {i v : V} (j : zh g w r.st i (a.eval x)) (h : zJG i = some v) :
  ∃ u,(execOp a.eval o).run P w = .ok (.value u) w ∧ zh g w r.st v u:=by
 obtain ⟨b,k,p,e,rfl⟩:=zAF j h;refine ⟨.int .i64 k,?_,zak rfl⟩;unfold execOp;simp [l,resolve,m,d,f,e,invoke,builtin,Builtin.len_,run_underlying n,goInt]
theorem zqW {t : TypeId} {fs : Array Field} {i : Nat} {f : Field} {ad : Addr} {n : Nat} (g : P.underlying t = some (.struct fs)) (e : fs[i]? = some f) (b : zj1 P f.type = some n) (d : n ≠ 0) :
  (Instr.fieldAt t (.pointer (some ad)) i).run P w = .ok (.pointer (some (ad.add f.offset))) w:=by
 unfold zj1 at b
 cases a : P.info? f.type with
 | none => simp [a] at b
 | some inf =>
   have c : inf.size = n:=(by simpa [a] using b);simp [Instr.fieldAt,run_underlying g,e,Instr.sureAddr,fieldPlace,sizeOf,typeInfo,a,c,d]
theorem za6 (b o j : Nat) : (⟨b,o,none⟩ : Addr).add j = ⟨b,o + j,none⟩:=by unfold Addr.add; split <;> simp_all
theorem zE6 {t : TypeId} {x : Operand} {i n off : Nat} {fs : Array Field} {f : Field} (y : o.op = .fieldAddr t x i) (C : P.underlying t = some (.struct fs)) (B : fs[i]? = some f) (D : zj1 P f.type = some n) (z : n ≠ 0) (c : f.offset = off)
  {m v : V} (d : zh g w r.st m (a.eval x)) (h : afa off m = some v) :
  ∃ u,(execOp a.eval o).run P w = .ok (.value u) w ∧ zh g w r.st v u:=by
 have key : ∀ ad,a.eval x = .pointer (some ad) → (execOp a.eval o).run P w = .ok (.value (.pointer (some (ad.add off)))) w:=fun ad e => by
  unfold execOp;simp only [y,e];simp [zqW (w:=w) (ad:=ad) C B D z,c]
 unfold afa at h;split at h
 ·rename_i id s j q
  injection h with h;subst h;simp only [zh,zK] at d;obtain ⟨v0,sz,len,l,k,A,ad,p⟩:=d;refine ⟨_,key ad p,?_⟩;simp only [zh,zK];refine ⟨v0,sz,len,l,k,fun e => ?_,_,rfl⟩;have:=A e;rw [p] at this;injection this with this;injection this with this;rw [this,za6,yu]
 ·rename_i cs q
  injection h with h;subst h;simp only [zh,zK] at d;obtain ⟨b,E,l,k⟩:=d;refine ⟨_,key _ l,?_⟩;simp only [zh,zK];exact ⟨b,E,by rw [za6,yu],k⟩
 ·cases h
theorem zq8 {t e : TypeId} {k : IntKind} {n : Int} {ad : Addr} {len cap sz : Nat} (g : P.underlying t = some (.slice e)) (b : zj1 P e = some sz) (f : 0 ≤ n) (d : n < len) :
  (Instr.indexAt t (.slice (some ad) len cap) (.int k n)).run P w = .ok (.pointer (some (ad.add (n.toNat * sz)))) w:=by
 unfold zj1 at b
 cases a : P.info? e with
 | none => simp [a] at b
 | some inf =>
   have c : inf.size = sz:=(by simpa [a] using b);simp [Instr.indexAt,asIntOf,run_underlying g,f,d,sizeOf,typeInfo,a,c]
theorem zsy {t e : TypeId} {k : IntKind} {n : Int} {ad : Addr} {len sz : Nat} (g : P.underlying t = some (.array len e)) (b : zj1 P e = some sz) (f : 0 ≤ n) (d : n < len) :
  (Instr.indexAt t (.pointer (some ad)) (.int k n)).run P w = .ok (.pointer (some (ad.add (n.toNat * sz)))) w:=by
 unfold zj1 at b
 cases a : P.info? e with
 | none => simp [a] at b
 | some inf =>
   have c : inf.size = sz:=(by simpa [a] using b);simp [Instr.indexAt,asIntOf,run_underlying g,f,d,sizeOf,typeInfo,a,c,Instr.sureAddr]
theorem zmH {a sz : Nat} {b : Ob} (h : b.isRow a sz = true) : ∃ es,b = .cells a sz es:=by
 unfold Ob.isRow at h;split at h
 ·simp at h
  obtain ⟨rfl,rfl⟩:=h;exact ⟨_,rfl⟩
 ·cases h
theorem zvt {t e : TypeId} {x i : Operand} {sz : Nat} (y : o.op = .indexAddr t x i) (B : P.underlying t = some (.slice e)) (C : zj1 P e = some sz) {xs : List (List Fz)} {k : IntKind} {n : Int} (q : rep w g.N (.sl xs) (a.eval x)) (z : a.eval i = .int k n)
  {v : V} (s : 0 ≤ n) (h : (xs[n.toNat]?).bind (zJa sz) = some v) : ∃ u,(execOp a.eval o).run P w = .ok (.value u) w ∧ zh g w r.st v u:=by
 rw [yg] at h;obtain ⟨el,j,f⟩:=h;unfold zJa at f;split at f
 ·rename_i l
  injection f with f;subst f;simp only [rep] at q;obtain ⟨ad,c,d,e1,e2,e3,e4⟩:=q;rcases e4 with rfl | ⟨b,p,rfl,e4⟩
  ·simp at j
  ·have A:=zb j
   have m : d = sz:=(by rw [← zcz e3 j,l]);subst m;refine ⟨.pointer (some ⟨b,p + n.toNat * d,none⟩),?_,?_⟩
   ·unfold execOp
    simp only [y,e1,z];simp [zq8 (w:=w) (ad:=⟨b,p,none⟩) (cap:=c) B C s (by omega : n < (xs.length : Int)),za6]
   ·simp only [vfp,zh,zK]
    exact ⟨b,p + n.toNat * d,rfl,zgn e4 j⟩
 ·cases f
theorem zFO {t e : TypeId} {x i : Operand} {sz : Nat} (l : o.op = .indexAddr t x i) (q : P.underlying t = some (.slice e)) (y : zj1 P e = some sz)
  {B A v : V} (z : zh g w r.st B (a.eval x)) (p : zh g w r.st A (a.eval i)) (h : aia r.st sz B A = some v) :
  ∃ u,(execOp a.eval o).run P w = .ok (.value u) w ∧ zh g w r.st v u:=by
 unfold aia at h;split at h
 ·rename_i id j lo n k m
  obtain ⟨ei,_⟩:=zaf p;split at h
  ·rename_i hm
   rw [yg] at h;obtain ⟨D,C,b⟩:=h;unfold zwt at b;split at b
   ·rename_i d
    injection b with b;subst b;obtain ⟨es,rfl⟩:=zmH d;obtain ⟨ad,c,e1,e2,e3,e4⟩:=zh4 z C;have s : es.length ≠ 0:=fun f => by have:=e3 f; omega
    obtain ⟨f1,f2,_⟩:=e4 s;have f3:=f2 (by omega);subst f3;refine ⟨.pointer (some ⟨g.ρ id,lo * sz + m.toNat * sz,none⟩),?_,?_⟩
    ·unfold execOp
     simp only [l,e1,ei];simp [zq8 (w:=w) (ad:=⟨g.ρ id,lo * sz,none⟩) (cap:=c) q y hm.1 hm.2,za6]
    ·simp only [zh,zK]
     exact ⟨j,sz,es.length,zG C,yl _,fun _ => by rw [ym,yP],_,rfl⟩
   ·cases b
  ·cases h
 ·obtain ⟨ei,_⟩:=zaf p
  split at h
  ·rename_i f
   exact zvt l q y (zvi z) ei f h
  ·cases h
 ·obtain ⟨ei,_⟩:=zaf p
  split at h
  ·rename_i f
   exact zvt l q y (zt4 z) ei f h
  ·cases h
 ·cases h
theorem zDO {t e : TypeId} {x i : Operand} {len sz : Nat} (y : o.op = .indexAddr t x i) (B : P.underlying t = some (.array len e)) (C : zj1 P e = some sz)
  {p n v : V} (d : zh g w r.st p (a.eval x)) (q : zh g w r.st n (a.eval i)) (h : zKu len sz p n = some v) :
  ∃ u,(execOp a.eval o).run P w = .ok (.value u) w ∧ zh g w r.st v u:=by
 have key : ∀ ad k m,a.eval x = .pointer (some ad) → a.eval i = .int k m → 0 ≤ m ∧ m < len → (execOp a.eval o).run P w = .ok (.value (.pointer (some (ad.add (m.toNat * sz))))) w:=fun ad k m e z hm => by
  unfold execOp;simp only [y,e,z];simp [zsy (w:=w) (ad:=ad) B C hm.1 hm.2]
 unfold zKu at h;split at h
 ·obtain ⟨ei,_⟩:=zaf q
  split at h
  ·rename_i hm
   injection h with h;subst h;simp only [zh,zK] at d;obtain ⟨v0,j,c,l,f,A,ad,s⟩:=d;refine ⟨_,key ad _ _ s ei hm,?_⟩;simp only [zh,zK];refine ⟨v0,j,c,l,f,fun e => ?_,_,rfl⟩;have:=A e;rw [s] at this;injection this with this;injection this with this;rw [this,za6,yu]
  ·cases h
 ·obtain ⟨ei,_⟩:=zaf q
  split at h
  ·rename_i hm
   injection h with h;subst h;simp only [zh,zK] at d;obtain ⟨b,D,l,f⟩:=d;refine ⟨_,key _ _ _ l ei hm,?_⟩;simp only [zh,zK];exact ⟨b,D,by rw [za6,yu],f⟩
  ·cases h
 ·cases h
end
section
variable {P : Program} {κ : List Tmp} {loc : List (Option Tmp)} {nt : Nat} {g : G} {w : World} {r r' : R} {a : Act} {o : Go.Oper} {d : D} {next : Act → World → Prop} {Q : Exit → Act → World → Prop}
theorem zAb {v : V} {u : Value} {n : Nat} {σ : zd} (a : zh g w σ v u) (h : zGu v = some n) : ∃ k,u = .int k (n : Int):=by
 unfold zGu at h;split at h
 ·rename_i k m
  split at h
  ·injection h with h
   obtain ⟨e,_⟩:=zaf a;exact ⟨k,by rw [e,← h,Int.toNat_of_nonneg (by assumption)]⟩
  ·cases h
 ·cases h
theorem run_sliceBound {k : IntKind} {n y : Nat} (c : BoundsCode) (h : n ≤ y) : (Instr.sliceBound (.int k n) y c).run P w = .ok n w:=by
 have a : (n : Int) ≤ (y : Int):=by omega
 simp [Instr.sliceBound,asIntOf,a]
theorem zrI (b : Bool) {len cap lo e : Nat} {f d a : Option Value} (c : (f = none ∧ lo = 0) ∨ ∃ k,f = some (.int k lo)) (g : (d = none ∧ a = none ∧ e = len) ∨ ∃ k,d = some (.int k e))
  (l : a = none ∨ a = d) (h : lo ≤ e) (i : e ≤ cap) :
  (Instr.sliceBounds b len cap f d a).run P w = .ok (lo,e,if a.isSome then e else cap) w:=by
 rcases l with rfl | rfl
 ·rcases g with ⟨rfl,_,rfl⟩ | ⟨k,rfl⟩
  ·rcases c with ⟨rfl,rfl⟩ | ⟨j,rfl⟩
   ·simp [Instr.sliceBounds]
   ·simp [Instr.sliceBounds,run_sliceBound _ h]
  ·rcases c with ⟨rfl,rfl⟩ | ⟨j,rfl⟩
   ·simp [Instr.sliceBounds,run_sliceBound _ i]
   ·simp [Instr.sliceBounds,run_sliceBound _ h,run_sliceBound _ i]
 ·rcases g with ⟨rfl,_,rfl⟩ | ⟨k,rfl⟩
  ·rcases c with ⟨rfl,rfl⟩ | ⟨j,rfl⟩
   ·simp [Instr.sliceBounds]
   ·simp [Instr.sliceBounds,run_sliceBound _ h]
  ·rcases c with ⟨rfl,rfl⟩ | ⟨j,rfl⟩
   ·simp [Instr.sliceBounds,run_sliceBound _ i,run_sliceBound _ (yl e)]
   ·simp [Instr.sliceBounds,run_sliceBound _ h,run_sliceBound _ i,run_sliceBound _ (yl e)]
theorem zyw {t e : TypeId} {len cap lo c sz : Nat} {ad : Option Addr} {d b a : Option Value} (n : P.underlying t = some (.slice e)) (j : zj1 P e = some sz) (f : (d = none ∧ lo = 0) ∨ ∃ k,d = some (.int k lo)) (g : (b = none ∧ a = none ∧ c = len) ∨ ∃ k,b = some (.int k c))
  (h : a = none ∨ a = b) (o : lo ≤ c) (m : c ≤ cap) :
  (Instr.sliceAt t (.slice ad len cap) d b a).run P w = .ok (.slice (if (if a.isSome then c else cap) = lo then ad else ad.map (·.add (lo * sz))) (c - lo) ((if a.isSome then c else cap) - lo)) w:=by
 unfold zj1 at j
 cases i : P.info? e with
 | none => simp [i] at j
 | some inf =>
   have l : inf.size = sz:=(by simpa [i] using j);simp [Instr.sliceAt,Instr.slice,run_underlying n,zrI (w:=w) (P:=P) true f g h o m,sizeOf,typeInfo,i,l]
theorem zwY {N : zhv} {xs : List (List Fz)} {ad : Option Addr} {c lo d m sz : Nat} (h : rep w N (.sl xs) (.slice ad xs.length c)) (g : ∀ e ∈ xs,e.length = sz) (r : lo ≤ d) (n : d ≤ xs.length) (hm : d ≤ m) :
  rep w N (.sl ((xs.take d).drop lo)) (.slice (if m = lo then ad else ad.map (·.add (lo * sz))) (d - lo) (m - lo)):=by
 have hlen : ((xs.take d).drop lo).length = d - lo:=by simp; omega
 simp only [rep] at h ⊢;obtain ⟨o,s,f,e1,e2,e3,e4⟩:=h;injection e1 with e1 _ _;subst e1;rw [hlen];refine ⟨_,_,sz,rfl,by omega,zf0 fun e he => g e (List.mem_of_mem_take (List.mem_of_mem_drop he)),?_⟩
 by_cases q : lo = d
 ·left
  exact yr (by omega)
 ·right
  have k : m ≠ lo:=by omega
  rw [if_neg k];rcases e4 with rfl | ⟨b,p,rfl,e4⟩
  ·simp at n; omega
  ·have j : f = sz:=by
    have l : 0 < xs.length:=(by omega);rw [← zcz e3 (yb l)];exact g _ (yL l)
   subst j;refine ⟨b,p + lo * f,by simp [za6],zhd fun i e a => ?_⟩;rw [yk,yj] at a;split at a
   ·have:=zgn e4 a
    rwa [ym,← yu] at this
   ·cases a
theorem zsQ {b : Option Go.Operand} {x : Option X} {c n : Nat} (f : ∀ y,x = some y → ∃ y',b = some y' ∧ zh g w r.st (r.get y) (a.eval y')) (i : x = none → b = none) (h : bound r c x = some n) :
  (b.map a.eval = none ∧ n = c) ∨ ∃ k,b.map a.eval = some (.int k n):=by
 cases x with
 | none => simp [bound] at h; left; simp [i rfl,h]
 | some y =>
   obtain ⟨y',e,d⟩:=f y rfl;obtain ⟨k,j⟩:=zAb d h;right;exact ⟨k,by simp [e,j]⟩
theorem zqG {f : Nat → Nat → Option V} {x y : Option Nat} {v : V} (h : two f x y = some v) : ∃ m n,x = some m ∧ y = some n ∧ f m n = some v:=by
 unfold two at h;split at h
 ·exact ⟨_,_,rfl,rfl,h⟩
 ·cases h
theorem zmF {sz : Nat} : ∀ {xs : List (List Fz)},zt9 sz xs = true → ∀ e ∈ xs,e.length = sz
 | [],_,e,he => by simp at he
 | x :: xs,h,e,he => by
   simp only [zt9,yq,decide_eq_true_eq] at h;rcases yK.1 he with rfl | he
   ·exact h.1
   ·exact zmF h.2 e he
def Opt (g : G) (w : World) (r : R) (a : Act) (x : Option Operand) (y : Option X) : Prop:=(∀ z,y = some z → ∃ z',x = some z' ∧ zh g w r.st (r.get z) (a.eval z')) ∧ (y = none → x = none)
theorem zDI {t e : TypeId} {sz : Nat} {x : Operand} {lo B s : Option Operand} {z j : Option X} {d : Bool} (O : o.op = .slice t x lo B s) (S : P.underlying t = some (.slice e)) (Y : zj1 P e = some sz)
  (C : Opt g w r a lo z) (E : Opt g w r a B j) (q : (s = none ∧ d = false) ∨ (d = true ∧ j.isSome = true ∧ s.map a.eval = B.map a.eval))
  {M v : V} (L : zh g w r.st M (a.eval x)) (h : zJ3 r sz z j d M = some v) :
  ∃ u,(execOp a.eval o).run P w = .ok (.value u) w ∧ zh g w r.st v u:=by
 have key : ∀ {ad : Option Addr} {len cap l h' : Nat},a.eval x = .slice ad len cap → bound r 0 z = some l → bound r len j = some h' → l ≤ h' → h' ≤ cap →
   ∃ m,h' ≤ m ∧ (d = false → m = cap) ∧ (execOp a.eval o).run P w = .ok (.value (.slice (if m = l then ad else ad.map (·.add (l * sz))) (h' - l) (m - l))) w:=by
  intro ad len cap l h' ex A y b Q;have b1:=zsQ (a:=a) C.1 C.2 A;have b2:=zsQ (a:=a) E.1 E.2 y
  have bb : (B.map a.eval = none ∧ s.map a.eval = none ∧ h' = len) ∨ ∃ k,B.map a.eval = some (.int k h'):=by
   rcases b2 with ⟨b2,b3⟩ | b2
   ·rcases q with ⟨rfl,_⟩ | ⟨_,U,em⟩
    ·exact .inl ⟨b2,rfl,b3⟩
    ·exact .inl ⟨b2,by rw [em]; exact b2,b3⟩
   ·exact .inr b2
  have bm : s.map a.eval = none ∨ s.map a.eval = B.map a.eval:=by
   rcases q with ⟨rfl,_⟩ | ⟨_,_,em⟩
   ·exact .inl rfl
   ·exact .inr em
  have G:=zyw (P:=P) (w:=w) (ad:=ad) S Y b1 bb bm b Q;refine ⟨if (s.map a.eval).isSome = true then h' else cap,?_,?_,?_⟩
  ·split <;> omega
  ·intro R
   rcases q with ⟨rfl,_⟩ | ⟨h,_⟩
   ·simp
   ·rw [R] at h; cases h
  ·unfold execOp
   simp only [O,ex,Sem.run_bind,G,Result.andThen_ok,Sem.run_pure]
 unfold zJ3 at h;split at h
 ·rename_i xs
  obtain ⟨l,h',A,y,b⟩:=zqG h;unfold zDk at b;split at b
  ·rename_i f
   injection b with b;subst b;have p:=zvi L;obtain ⟨ad,c,e1,e2⟩:=zmd p;rw [e1] at p;obtain ⟨m,H,_,D⟩:=key e1 A y f.1 (by omega);refine ⟨_,D,?_⟩;simp only [vsl,zh,zK];exact zwY p (zmF f.2.2) f.1 f.2.1 H
  ·cases b
 ·rename_i xs
  obtain ⟨l,h',A,y,b⟩:=zqG h;unfold zDk at b;split at b
  ·rename_i f
   injection b with b;subst b;have p:=zt4 L;obtain ⟨ad,c,e1,e2⟩:=zmd p;rw [e1] at p;obtain ⟨m,H,_,D⟩:=key e1 A y f.1 (by omega);refine ⟨_,D,?_⟩;simp only [vsl,zh,zK];exact zwY p (zmF f.2.2) f.1 f.2.1 H
  ·cases b
 ·rename_i id I N n
  split at h
  ·cases h
  ·rename_i K
   obtain ⟨l,h',A,y,b⟩:=zqG h;unfold zBG at b;split at b
   ·rename_i f
    injection b with b;subst b;obtain ⟨c1,c2,c3⟩:=f
    cases i : r.st[id]? with
    | none => simp [i] at c3
    | some ob =>
      simp [i] at c3;obtain ⟨es,rfl⟩:=zmH c3;obtain ⟨ad,c,e1,e2,e3,e4⟩:=zh4 L i;obtain ⟨m,H,Z,D⟩:=key e1 A y c1 (by omega);have hm:=Z (by simpa using K);subst hm;refine ⟨_,D,?_⟩;simp only [zh,zK];refine ⟨I,sz,es.length,zG i,yl _,fun _ => ⟨_,_,rfl,by omega,fun J => by have:=e3 J; omega,fun J => ?_⟩,_,_,rfl⟩;obtain ⟨f1,f2,arr,ty,f3,f4⟩:=e4 J;refine ⟨by omega,fun W => ?_,arr,ty,f3,?_⟩
      ·rw [if_neg (by omega),f2 (by omega)]
       simp [za6,ym]
      ·have : (N + l + (m - l)) = N + m:=by omega
       rw [this]; exact f4
   ·cases b
 ·cases h
theorem zla {σ : zd} : ∀ {vs : List V} {us : List Value},zW g w σ vs us → ∀ {i : Nat} {v : V},vs[i]? = some v → ∃ u,us[i]? = some u ∧ zh g w σ v u
 | [],_,_,i,v,h => by simp at h
 | x :: vs,us,hr,i,v,h => by
   simp only [zW] at hr;obtain ⟨u,us',rfl,b,a⟩:=hr
   cases i with
   | zero => simp at h; subst h; exact ⟨u,by simp,b⟩
   | succ i => simpa using zla a (i:=i) (v:=v) (by simpa using h)
theorem zEN {x : Operand} {i : Nat} (j : o.op = .extract x i) {d v : V} (c : zh g w r.st d (a.eval x)) (h : zKA i d = some v) :
  ∃ u,(execOp a.eval o).run P w = .ok (.value u) w ∧ zh g w r.st v u:=by
 unfold zKA at h;split at h
 ·simp only [zh] at c
  obtain ⟨us,e,k⟩:=c;obtain ⟨u,hu,f⟩:=zla k h;refine ⟨u,?_,f⟩;have b : us[i]? = some u:=by simpa using hu
  unfold execOp;simp [j,e,Instr.extract,b]
 ·cases h
theorem zBD {x : Operand} (c : o.op = .nilCheck x) {d v : V} (b : zh g w r.st d (a.eval x)) (h : zKl d = some v) :
  ∃ u,(execOp a.eval o).run P w = .ok (.value u) w ∧ zh g w r.st v u:=by
 unfold zKl at h;split at h
 ·injection h with h
  subst h;refine ⟨a.eval x,?_,b⟩;simp only [zh,zK] at b;obtain ⟨_,_,_,_,_,_,ad,e⟩:=b;unfold execOp;simp [c,e]
 ·injection h with h
  subst h;refine ⟨a.eval x,?_,b⟩;simp only [zh,zK] at b;obtain ⟨_,_,e,_⟩:=b;unfold execOp;simp [c,e]
 ·injection h with h
  subst h;refine ⟨a.eval x,?_,b⟩;simp only [zh,zK] at b;obtain ⟨_,_,e,_⟩:=b;unfold execOp;simp [c,e]
 ·cases h
theorem zDP {b : Builtin} {isMax : Bool} {x y : Operand} {c : Go.Call} (i : o.op = .call c) (l : c.callee = .builtin b) (e : b = if isMax then .max else .min) (d : c.args = #[x,y])
  {f j v : V} (s : zh g w r.st f (a.eval x)) (p : zh g w r.st j (a.eval y)) (h : zKq isMax f j = some v) :
  ∃ u,(execOp a.eval o).run P w = .ok (.value u) w ∧ zh g w r.st v u:=by
 unfold zKq at h;split at h
 ·rename_i k m t n
  split at h
  ·rename_i q
   subst q;injection h with h;subst h;obtain ⟨ex,_⟩:=zaf s;obtain ⟨ey,_⟩:=zaf p;cases isMax
   ·simp at e
    subst e;refine ⟨.int k (min m n),?_,zak rfl⟩;unfold execOp;simp [i,resolve,l,d,ex,ey,invoke,builtin,Builtin.min_,Builtin.min2];omega
   ·simp at e
    subst e;refine ⟨.int k (max m n),?_,zak rfl⟩;unfold execOp;simp [i,resolve,l,d,ex,ey,invoke,builtin,Builtin.max_,Builtin.max2];omega
  ·cases h
 ·cases h
end
section
variable {P : Program} {κ : List Tmp} {loc : List (Option Tmp)} {nt : Nat} {g : G} {w : World} {r r' : R} {a : Act} {o : Go.Oper} {d : D} {next : Act → World → Prop} {Q : Exit → Act → World → Prop}
theorem zEE {σ : zd} {id b i : Nat} {e : List C} (h : σ.elem id b i = some e) : ∃ sz es,σ[id]? = some (.cells b sz es) ∧ es[i]? = some e:=by
 unfold zd.elem at h;rw [yg] at h;obtain ⟨g,d,a⟩:=h;unfold Ob.elem at a;split at a
 ·rename_i c sz es
  split at a
  ·rename_i f
   subst f;exact ⟨sz,es,d,a⟩
  ·cases a
 ·cases a
theorem ztH (H : Rel g w r.st) {id n i off : Nat} {e : List C} {u : Value} (he : r.st.elem id n i = some e) (z : zh g w r.st (.one (.ptr id n i off)) u) :
  ∃ b o us,u = .pointer (some ⟨b,o + off,none⟩) ∧ us.length = e.length ∧ zC g w r.st e us ∧ (∀ v ∈ us,v.oneCell' = true) ∧ ∀ j v,us[j]? = some v → w.cell? ⟨b,o + j,none⟩ = some v:=by
 obtain ⟨sz,es,y,s⟩:=zEE he;have p : es ≠ []:=fun h => by subst h; simp at s
 obtain ⟨_,_,arr,t,I,L,B⟩:=H.ob id _ y p;simp only [zh,zK] at z;obtain ⟨v0,G,len,k,M,D,_⟩:=z;rw [zG y] at k;injection k with k;injection k with e1 k;injection k with e2 e3;subst e1 e2 e3;have hu:=D rfl;obtain ⟨E,a⟩:=B i e s;refine ⟨g.ρ id,i * sz,(yJ e.length).map fun j => arr.getD (i * sz + j) undef,hu,by simp,zmt (by simp) fun j c v x d => ?_,fun v d => ?_,fun j v d => ?_⟩
 ·obtain ⟨A,m,J,_⟩:=a j c x
  rw [yn,yf (zb x)] at d;simp only [yF,Option.some.injEq] at d;rw [← d];simp only [yo,m,yC];exact J
 ·rw [List.mem_map] at d
  obtain ⟨j,q,rfl⟩:=d;rw [List.mem_range] at q;obtain ⟨A,m,_,K⟩:=a j _ (yb q);simp only [yo,m,yC];exact K
 ·rw [yn] at d
  have q:=d
  cases l : (yJ e.length)[j]? with
  | none => rw [l] at d; cases d
  | some j' =>
    have f:=zb l;simp at f;rw [yf f] at l;injection l with l;subst l;rw [yf f] at d;simp only [yF,Option.some.injEq] at d;obtain ⟨A,m,_,_⟩:=a j _ (yb f);rw [zju I,m,← d];simp only [yo,m,yC]
theorem zlp {t : TypeId} {b : Bool} (h : zmR P t = some b) : (isAgg t).run P w = .ok b w:=by
 unfold zmR at h
 cases hu : P.underlying t with
 | none => simp [hu] at h
 | some de =>
   simp [hu] at h;subst h;unfold isAgg;rw [Sem.run_bind,run_underlying hu w];cases de <;> rfl
theorem zm7 {t : TypeId} {ad : Addr} {v : Value} (h : zmR P t = some false) (a : w.cell? ad = some v) : (Instr.loadAt t (.pointer (some ad))).run P w = .ok v w:=by
 simp [Instr.loadAt,Instr.sureAddr,loadVar,zlp (w:=w) h,a]
theorem zjs {t : TypeId} {b o n : Nat} {vs : List Value} (h : zmR P t = some true) (c : zj1 P t = some n) (g : vs.length = n) (i : ∀ j v,vs[j]? = some v → w.cell? ⟨b,o + j,none⟩ = some v) :
  (Instr.loadAt t (.pointer (some ⟨b,o,none⟩))).run P w = .ok (.agg vs.toArray) w:=by
 have f : (loadCells ⟨b,o,none⟩ n).run P w = .ok vs.toArray w:=by
  rw [← g];exact run_loadCells_list (P:=P) w ⟨b,o,none⟩ vs (fun j v e => by rw [za6]; exact i j v e)
 unfold zj1 at c
 cases a : P.info? t with
 | none => simp [a] at c
 | some inf =>
   have d : inf.size = n:=(by simpa [a] using c);simp [Instr.loadAt,Instr.sureAddr,loadVar,zlp (w:=w) h,sizeOf,typeInfo,a,d,f]
theorem zqH {α : Type} {o n : Nat} {e x : List α} (h : cut o n e = some x) : o + n ≤ e.length ∧ x = (e.drop o).take n:=by
 unfold cut at h;split at h
 ·injection h with h; exact ⟨by assumption,h.symm⟩
 ·cases h
theorem zqN {σ : zd} {e : List C} {us : List Value} (h : zC g w σ e us) (o n : Nat) : zC g w σ ((e.drop o).take n) ((us.drop o).take n):=by
 have b:=zZ h;refine zmt (by simp [b]) fun j c u a hu => ?_;rw [yj] at a hu;split at a
 ·rw [if_pos (by assumption),yk] at hu
  rw [yk] at a;obtain ⟨i,f,d⟩:=ze0 h a;rw [f] at hu;injection hu with hu;rw [← hu];exact d
 ·cases a
theorem zrA {σ : zd} : ∀ {cs : List Fz} {us : List Value},us.length = cs.length → (∀ (j : Nat) (x : Fz) (u : Value),cs[j]? = some x → us[j]? = some u → rep w g.N x u) → zC g w σ (cs.map C.f) us
 | cs,us,hl,h => zmt (by simpa using hl) fun j c u a hu => by
   rw [yn,yc] at a;obtain ⟨x,b,rfl⟩:=a;simp only [zK];exact h j x u b hu
theorem zyY (K : Rel g w r.st) {t : TypeId} {x : Operand} {sz : Option Nat} (D : o.op = .load t x) (k : match sz with
   | none => zmR P t = some false
   | some n => zmR P t = some true ∧ zj1 P t = some n)
  {J v : V} (d : zh g w r.st J (a.eval x)) (h : ald r.st sz J = some v) :
  ∃ u,(execOp a.eval o).run P w = .ok (.value u) w ∧ zh g w r.st v u:=by
 unfold ald at h;split at h
 ·
  rename_i id G i off;rw [yc] at h;obtain ⟨c,f,rfl⟩:=h;unfold zd.cell at f;rw [yg] at f;obtain ⟨e,f,H⟩:=f;obtain ⟨b,A,us,s,C,E,_,q⟩:=ztH K f d;obtain ⟨u,O,L⟩:=ze0 E H;refine ⟨u,?_,L⟩;unfold execOp;simp only [D,s];simp [zm7 (P:=P) (w:=w) k (q off u O)]
 ·
  rename_i cs off;rw [yc] at h;obtain ⟨y,f,rfl⟩:=h;simp only [zh,zK] at d;obtain ⟨b,A,s,C⟩:=d;obtain ⟨u,_,B,q⟩:=zie C f;refine ⟨u,?_,by simpa only [vf,zh,zK] using q⟩;unfold execOp;simp only [D,s];simp [zm7 (P:=P) (w:=w) k B]
 ·
  rename_i n id G i off;rw [yc] at h;obtain ⟨M,f,rfl⟩:=h;rw [yg] at f;obtain ⟨e,f,H⟩:=f;obtain ⟨hle,rfl⟩:=zqH H;obtain ⟨b,A,us,s,C,E,_,q⟩:=ztH K f d;refine ⟨.agg ((us.drop off).take n).toArray,?_,?_⟩
  ·unfold execOp
   simp only [D,s]
   simp [zjs (P:=P) (w:=w) (b:=b) (o:=A + off) (vs:=(us.drop off).take n) k.1 k.2 (by simp; omega) (fun j v p => by
    rw [yj] at p;split at p
    ·rw [yk] at p
     have:=q _ _ p
     rwa [← yu] at this
    ·cases p)]
  ·simp only [zh]
   exact ⟨_,rfl,by simpa using zqN E off n⟩
 ·rename_i n cs off
  rw [yc] at h;obtain ⟨M,f,rfl⟩:=h;obtain ⟨hle,rfl⟩:=zqH f;simp only [zh,zK] at d;obtain ⟨b,A,s,C⟩:=d
  have m : ∀ j,j < n → ∃ u,w.cell? ⟨b,A + off + j,none⟩ = some u ∧ ∀ x,cs[off + j]? = some x → rep w g.N x u:=fun j I => by
   obtain ⟨u,_,B,q⟩:=zie C (yb (by omega : off + j < cs.length));refine ⟨u,by rwa [yu],fun x d => ?_⟩;rw [yb (by omega : off + j < cs.length)] at d;injection d with d;rw [← d]; exact q
  let us : List Value:=(yJ n).map fun j => (w.cell? ⟨b,A + off + j,none⟩).getD undef
  refine ⟨.agg us.toArray,?_,?_⟩
  ·unfold execOp
   simp only [D,s]
   simp [zjs (P:=P) (w:=w) (b:=b) (o:=A + off) (vs:=us) k.1 k.2 (by simp [us]) (fun j v p => by
    simp only [us,yn,yc] at p;obtain ⟨R,l,p⟩:=p;have z:=zb l;simp at z;rw [yf z] at l;injection l with l;subst l;obtain ⟨u,B,_⟩:=m j z;rw [B] at p ⊢
    simpa using p)]
  ·simp only [zEV,zh]
   refine ⟨us.toArray,rfl,zrA (by simp [us]; omega) fun j x u d hu => ?_⟩;rw [yj] at d;split at d
   ·rename_i I
    rw [yk] at d;obtain ⟨Q,B,q⟩:=m j I
    have : us[j]? = some Q:=by
     simp only [us,yn,yf I,yF,B,yC]
    rw [show us.toArray.toList = us from by simp,this] at hu;injection hu with hu;rw [← hu];exact q x d
   ·cases d
 ·cases h
theorem zCs {t : TypeId} {x : Operand} {i off : Nat} {sz : Option Nat} {fs : Array Field} {f : Field} (z : o.op = .field t x i) (B : P.underlying t = some (.struct fs)) (A : fs[i]? = some f) (j : f.offset = off)
  (b : match sz with
   | none => zmR P f.type = some false
   | some n => zmR P f.type = some true ∧ zj1 P f.type = some n)
  {y v : V} (k : zh g w r.st y (a.eval x)) (h : zzT off sz y = some v) :
  ∃ u,(execOp a.eval o).run P w = .ok (.value u) w ∧ zh g w r.st v u:=by
 subst j;unfold zzT at h;split at h
 ·rename_i cs
  rw [yc] at h;obtain ⟨c,q,rfl⟩:=h;simp only [zh] at k;obtain ⟨us,e,l⟩:=k;obtain ⟨u,C,E⟩:=ze0 l q;have p : us[f.offset]? = some u:=by simpa using C
  refine ⟨u,?_,E⟩;unfold execOp;simp [z,e,Instr.field,run_underlying B,A,asAgg,part,zlp (w:=w) b,p]
 ·rename_i n cs
  rw [yc] at h;obtain ⟨D,q,rfl⟩:=h;obtain ⟨hle,rfl⟩:=zqH q;simp only [zh] at k;obtain ⟨us,e,l⟩:=k;refine ⟨.agg (us.extract f.offset (f.offset + n)),?_,?_⟩
  ·have s:=b.2
   unfold zj1 at s
   cases m : P.info? f.type with
   | none => simp [m] at s
   | some inf =>
     have d : inf.size = n:=(by simpa [m] using s);unfold execOp;simp [z,e,Instr.field,run_underlying B,A,asAgg,part,zlp (w:=w) b.1,sizeOf,typeInfo,m,d]
  ·simp only [zh]
   refine ⟨_,rfl,?_⟩;have:=zqN l f.offset n
   have e2 : (us.extract f.offset (f.offset + n)).toList = (us.toList.drop f.offset).take n:=by
    rw [Array.toList_extract];simp [List.extract,yi]
   rw [e2];exact this
 ·cases h
def zDC (κ : List Tmp) (loc : List (Option Tmp)) : List Operand → List X → Bool
 | [],[] => true
 | x :: xs,y :: ys => okX κ loc x y && zDC κ loc xs ys
 | _,_ => false
theorem Fr.gets (F : Fr κ loc nt g w r a) : ∀ {xs : List Operand} {ys : List X},zDC κ loc xs ys = true → zW g w r.st (r.gets ys) (xs.map a.eval)
 | [],[],_ => by simp [R.gets,zW]
 | x :: xs,y :: ys,h => by
   simp only [zDC,yq] at h;simp only [R.gets,zW,yQ];exact ⟨_,_,rfl,F.get h.1,F.gets h.2⟩
 | [],_ :: _,h => by simp [zDC] at h
 | _ :: _,[],h => by simp [zDC] at h
theorem zux {σ : zd} : ∀ {vs : List V} {us : List Value},zW g w σ vs us → zC g w σ (vs.map V.c1) us
 | [],us,h => by simpa only [zW,zC,List.map_nil] using h
 | v :: vs,us,h => by
   simp only [zW] at h;obtain ⟨x,xs,rfl,a,b⟩:=h;simp only [yQ,zC];refine ⟨x,xs,rfl,?_,zux b⟩
   cases v with
   | one c => simpa only [V.c1,zh] using a
   | agg cs => simp only [V.c1,zK]
   | tup cs => simp only [V.c1,zK]
theorem zCI (F : Fr κ loc nt g w r a) {f : Nat} {first d : Array Operand} {b c : List X} (h : o.op = .makeFunc (.func f) first d) (e : zDC κ loc first.toList b = true) (i : zDC κ loc d.toList c = true) :
  ∃ u,(execOp a.eval o).run P w = .ok (.value u) w ∧ zh g w r.st (.one (.fn f ((r.gets b).map V.c1) ((r.gets c).map V.c1))) u:=by
 refine ⟨.func (.func f) (first.map a.eval) (d.map a.eval),?_,?_⟩
 ·unfold execOp
  simp [h,Instr.makeFunc]
 ·simp only [zh,zK]
  exact ⟨_,_,rfl,by simpa using zux (F.gets e),by simpa using zux (F.gets i)⟩
end
structure Low (base lim : Nat) (σ : zd) : Prop where
 le : True
theorem Low.append {base lim : Nat} {σ : zd} (_ : Low base lim σ) (os : List Ob) : Low base lim (σ ++ os):=⟨trivial⟩
theorem Low.set {base lim : Nat} {σ : zd} (_ : Low base lim σ) {id : Nat} {o : Ob} : Low base lim (σ.set id o):=⟨trivial⟩
def zsl (κ : List Tmp) (loc : List (Option Tmp)) (nt : Nat) (g : G) (w : World) (r r' : R) (pa : Value → Act) (next : Act → World → Prop) : Prop :=
 ∀ g' w' u,Ext g w r.st g' w' r'.st → Rel g' w' r'.st → Low r.base r.lim r'.st → Fr κ loc nt g' w' r' (pa u) → next (pa u) w'
section
variable {P : Program} {κ : List Tmp} {loc : List (Option Tmp)} {nt : Nat} {g : G} {w : World} {r r' : R} {a : Act} {o : Go.Oper} {d : D} {next : Act → World → Prop} {Q : Exit → Act → World → Prop}
theorem zov (e : Rel g w r.st) (L : Low r.base r.lim r.st) (F : Fr κ loc nt g w r a) (hd : okD κ nt o.dst d = true) {v : V} {u : Value} (b : (execOp a.eval o).run P w = .ok (.value u) w) (c : zh g w r.st v u)
  (k : zsl κ (zbE o.dst d :: loc) nt g w r (r.put d v) (a.put o.dst) next) : o.wp P a w next Q:=by
 refine zou b (k g w _ ?_ ?_ ?_ (F.put hd fun _ => c)) <;> rw [zfW]
 ·exact Ext.refl _ _ _
 ·exact e
 ·exact L
theorem zc2 {g' : G} {w' : World} {r1 : R} (F : Fr κ loc nt g w r a) (hd : okD κ nt o.dst d = true) (H : Ext g w r.st g' w' r1.st) (h : Rel g' w' r1.st) (e : Low r.base r.lim r1.st) (he : r1.env = r.env) (c : r1.rs = r.rs)
  {v : V} {u : Value} (b : (execOp a.eval o).run P w = .ok (.value u) w') (f : zh g' w' r1.st v u)
  (k : zsl κ (zbE o.dst d :: loc) nt g w r (r1.put d v) (a.put o.dst) next) : o.wp P a w next Q:=by
 refine zou b (k g' w' _ ?_ ?_ ?_ ((F.ext H he c).put hd fun _ => f)) <;> rw [zfW]
 ·exact H
 ·exact h
 ·exact e
theorem zuu {g' : G} {w' : World} {r1 : R} (F : Fr κ loc nt g w r a) (hd : okD κ nt o.dst d = true) (e : d = .no) (H : Ext g w r.st g' w' r1.st) (i : Rel g' w' r1.st) (f : Low r.base r.lim r1.st) (he : r1.env = r.env) (c : r1.rs = r.rs)
  (b : (execOp a.eval o).run P w = .ok .skip w') (k : zsl κ (zbE o.dst d :: loc) nt g w r (r1.put d vun) (a.put o.dst) next) : o.wp P a w next Q:=by
 refine zzS b (k g' w' _ ?_ ?_ ?_ ((F.ext H he c).put hd fun h => absurd e h)) <;> rw [zfW]
 ·exact H
 ·exact i
 ·exact f
theorem zul {N : zhv} {x : Fz} {u : Value} (h : rep w N x u) : u.oneCell' = true:=by
 cases x with
 | lit v =>
   simp only [rep] at h;rw [h.1];have:=h.2;cases v <;> simp_all [zEs,Value.oneCell']
 | sl xs =>
   obtain ⟨_,_,e,_⟩:=zmd h;rw [e];rfl
theorem zzb {σ : zd} {c : C} {u : Value} (h : zK g w σ c u) (a : c ≠ .un) : u.oneCell' = true:=by
 cases c with
 | f x => simp only [zK] at h; exact zul h
 | ap t k xs => simp only [zK] at h; exact zul h.1
 | ptr id ver i off => simp only [zK] at h; obtain ⟨_,_,_,_,_,_,_,e⟩:=h; rw [e]; rfl
 | fp cs off => simp only [zK] at h; obtain ⟨_,_,e,_⟩:=h; rw [e]; rfl
 | own id ver lo n => simp only [zK] at h; obtain ⟨_,_,_,_,_,_,_,_,e⟩:=h; rw [e]; rfl
 | map id => simp only [zK] at h; rw [h.2]; rfl
 | fn f x y => simp only [zK] at h; obtain ⟨_,_,e,_⟩:=h; rw [e]; rfl
 | un => exact absurd rfl a
theorem zEv : ∀ {cs : List C},C.kns cs = true → ∀ c ∈ cs,c ≠ .un
 | [],_,c,h => by simp at h
 | x :: cs,hk,c,h => by
   cases x <;> simp only [C.kns] at hk <;> first
    | (cases hk; done)
    | (rcases yK.1 h with rfl | h
       ·simp
       ·exact zEv hk c h)
theorem zEQ {σ : zd} {cs : List C} {us : List Value} (h : zC g w σ cs us) (e : C.kns cs = true) : ∀ u ∈ us,u.oneCell' = true:=fun u hu => by
 obtain ⟨j,c⟩:=List.mem_iff_getElem?.1 hu;have a:=zb c;rw [zZ h] at a;obtain ⟨f,b,d⟩:=ze0 h (yb a);rw [c] at b;injection b with b;subst b;exact zzb d (zEv e _ (yL a))
theorem zv7 {u : Value} (h : u.oneCell' = true) : u.cells = #[u]:=by cases u <;> simp_all [Value.oneCell',Value.cells]
theorem zjH {σ : zd} {v : V} {u : Value} (h : zh g w σ v u) (f : C.kns v.cells = true) (i : 0 < v.cells.length) : zC g w σ v.cells u.cells.toList ∧ ∀ x ∈ u.cells.toList,x.oneCell' = true:=by
 cases v with
 | one c =>
   simp only [zh] at h;have j : c ≠ .un:=zEv (cs:=[c]) f c (by simp);have a:=zzb h j;rw [zv7 a];simp only [V.cells,zC];exact ⟨⟨u,[],rfl,h,rfl⟩,fun x b => by simp at b; rw [b]; exact a⟩
 | agg cs =>
   simp only [zh] at h;obtain ⟨us,e,d⟩:=h;rw [e];exact ⟨d,zEQ d f⟩
 | tup vs => simp [V.cells] at i
mutual
theorem zpq {σ : zd} : ∀ (c : C) (u : Value),zK g w σ c u → c.lt σ.length = true
 | .f _,_,_ => by simp [C.lt]
 | .ap t k xs,u,h => by
   simp only [zK] at h;obtain ⟨_,n,d,_⟩:=h;obtain ⟨_,_,a,_⟩:=zee d;simpa [C.lt] using zb a
 | .ptr id ver i off,u,h => by
   simp only [zK] at h;obtain ⟨_,_,_,b,_⟩:=h;obtain ⟨_,a,_⟩:=zbs b;simpa [C.lt] using zb a
 | .fp _ _,_,_ => by simp [C.lt]
 | .own id ver lo n,u,h => by
   simp only [zK] at h;obtain ⟨_,_,_,b,_⟩:=h;obtain ⟨_,a,_⟩:=zbs b;simpa [C.lt] using zb a
 | .map id,u,h => by
   simp only [zK] at h;obtain ⟨⟨_,a⟩,_⟩:=h;simpa [C.lt] using zb a
 | .fn f x y,u,h => by
   simp only [zK] at h;obtain ⟨fs,cs,_,d,a⟩:=h;simp [C.lt,zqq x _ d,zqq y _ a]
 | .un,_,_ => by simp [C.lt]
theorem zqq {σ : zd} : ∀ (cs : List C) (us : List Value),zC g w σ cs us → C.lts σ.length cs = true
 | [],_,_ => by simp [C.lts]
 | c :: cs,us,h => by
   simp only [zC] at h;obtain ⟨v,vs,_,b,a⟩:=h;simp [C.lts,zpq c v b,zqq cs vs a]
end
theorem zC8 {n : Nat} : ∀ {cs : List C},C.lts n cs = true ↔ ∀ c ∈ cs,c.lt n = true
 | [] => by simp [C.lts]
 | c :: cs => by simp [C.lts,zC8]
theorem zyR {n : Nat} : ∀ {es : List (List C)},C.ltss n es = true ↔ ∀ e ∈ es,C.lts n e = true
 | [] => by simp [C.ltss]
 | c :: cs => by simp [C.ltss,zyR]
theorem zrY {t : TypeId} {b o : Nat} {arr : Array Value} {ty : TypeId} {u : Value} {n : Nat} (e : zj1 P t = some n) (g : u.cells.size = n) (i : w.heap[b]? = some (.cells arr ty (0,0))) (c : o + n ≤ arr.size) (h : ∀ x ∈ u.cells.toList,x.oneCell' = true) :
  (Instr.storeAt t (.pointer (some ⟨b,o,none⟩)) u).run P w = .ok () (w.setRow b (zcD arr o u.cells.toList)):=by
 have a:=run_storeCells_at P b o ty u.cells.toList 0 arr w i (by simpa [g] using c) h;simp only [yP] at a;unfold zj1 at e
 cases d : P.info? t with
 | none => simp [d] at e
 | some inf =>
   have f : inf.size = n:=(by simpa [d] using e);simp [Instr.storeAt,Instr.sureAddr,storeVar,sizeOf,typeInfo,d,f,g,a,zcD]
theorem zGz (J : Rel g w r.st) (L : Low r.base r.lim r.st) (F : Fr κ loc nt g w r a) {t : TypeId} {x v : Operand} {sz : Nat} (I : o.op = .store t x v) (hd : okD κ nt o.dst d = true) (A : d = .no) (W : zj1 P t = some sz) (Z : 0 < sz)
  {C D : V} (E : zh g w r.st C (a.eval x)) (N : zh g w r.st D (a.eval v)) {r1 : R} (h : ast r sz D.cells C = some r1)
  (k : zsl κ (zbE o.dst d :: loc) nt g w r (r1.put d vun) (a.put o.dst) next) : o.wp P a w next Q:=by
 unfold ast at h;split at h
 ·rename_i id H i off
  split at h
  ·rename_i hlen
   unfold R.write at h;split at h
   ·rename_i f
    rw [yc] at h;obtain ⟨K,z,rfl⟩:=h;rw [yg] at z;obtain ⟨ob,z,b⟩:=z;unfold Ob.write at b;split at b
    ·rename_i p l es
     split at b
     ·rename_i m
      subst m;rw [yc] at b;obtain ⟨O,b,rfl⟩:=b;rw [yg] at b;obtain ⟨e,b,S⟩:=b;obtain ⟨B,G⟩:=zjH N f (by omega);obtain ⟨arr,ty,Y,c,U,M⟩:=zx3 J z b S B G
      have y : a.eval x = .pointer (some ⟨g.ρ id,i * l + off,none⟩):=by
       simp only [zh,zK] at E;obtain ⟨v0,s0,l0,m1,_,X,_⟩:=E;rw [zG z] at m1;injection m1 with m1;injection m1 with e1 m1;injection m1 with e2 e3;subst e1 e2;exact X rfl
      have s:=zZ B;have j : (a.eval v).cells.size = sz:=(by rw [← hlen,← s]; simp);refine zuu (r1:=r.setOb id (upd p l i es O)) F hd A U M L.set rfl rfl ?_ k
      ·unfold execOp
       simp only [I,y];have q:=zrY (P:=P) (w:=w) (u:=a.eval v) (n:=sz) (o:=i * l + off) W j Y (by rw [s,hlen] at c; exact c) G;simp only [Sem.run_bind,q,Result.andThen_ok,Sem.run_pure]
     ·cases b
    ·cases b
   ·cases h
  ·cases h
 ·cases h
end
end Go.A

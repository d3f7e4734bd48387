/- A part of the proof of AliasTells. Conditions: none. -/
import Derived.Test.YtmkncmffaaninaaGreatLAB
import Derived.Laws.MakeOwn
set_option linter.all false
open List renaming eq_nil_of_length_eq_zero → ya,getElem?_append_left → yb,getElem?_take → ye,mem_of_getElem? → yf,replicate → yi,getElem?_eq_getElem → ym,getElem?_drop → yp,mem_iff_getElem? → yr,map_cons → yt,mem_of_mem_take → yu,length_take → yv,map_toArray → yw,getElem?_set → yy,getElem?_replicate → yz,append_assoc → yA,length_map → yC,getElem?_append → yD,map_nil → yF,mem_replicate → yG,range → yH,getElem?_map → yK,ext_getElem? → yL,size_toArray → yM,all_eq_true → yN,length_nil → yQ
open Option renaming bind_eq_some_iff → yc,map_eq_some_iff → yg
open Nat renaming le_refl → yd,mul_le_mul_right → yj,eq_zero_or_pos → yn,add_mul → yq,zero_add → yI,add_zero → yJ,min_eq_left → yP,lt_irrefl → yT,mul_comm → yU,zero_le → yW
open Array renaming getElem?_toList → yh,length_toList → yk,getElem?_setIfInBounds → yl,getElem?_eq_getElem → yx,toArray_toList → yE,size_append → yO,range → yS
open Int renaming mul_le_mul_of_nonneg_right → yo,le_refl → yV
open Bool renaming and_eq_true → yB,or_eq_true → yR
namespace Go.A
def zeroOf (P : Program) (t : TypeId) : Option (List Value):=((P.info? t).bind (·.zero)).map fun z => z.cells.toList
def zkx (zs : List Value) : List (Nat × Nat) → Bool
 | [] => true
 | j :: js => (match zs[j.1]? with
   | some (.slice none 0 0) => true
   | _ => false) && zkx zs js
def G.nils (g : G) (t : Nat) (f : Nat → Value) : G:={ g with tv:=fun t' k => if t' = t then f k else g.tv t' k }
section
variable {g : G} {w : World} {σ : zd}
theorem zzW (R : Rel g w σ) (ob : Ob) (f : Nat → Value) (d : ∀ {σ' : zd},Ext g w σ (g.nils σ.length f) w σ' → zET (g.nils σ.length f) w σ' σ.length ob) :
  Ext g w σ (g.nils σ.length f) w (σ ++ [ob]) ∧ Rel (g.nils σ.length f) w (σ ++ [ob]):=by
 have b : ∀ t k,t < σ.length → (g.nils σ.length f).tv t k = g.tv t k:=fun t k h => by
  show (if t = σ.length then f k else g.tv t k) = _
  rw [if_neg (by omega)]
 have H : Ext g w σ (g.nils σ.length f) w (σ ++ [ob]):={
  os:=rfl
  tape:=rfl
  output:=rfl
  size:=yd _
  keeps:=fun _ _ h => ⟨h,rfl⟩
  len:=by simp
  shape:=fun id i sz len h => by
   obtain ⟨es,a,_⟩:=zbs h;exact .inl ⟨by unfold shapeOf; rw [yb (zb a)]; exact h,rfl,fun _ arr t j => ⟨arr,j,rfl⟩⟩
  map:=fun id es h => ⟨rfl,es,by rw [yb (zb h)]; exact h⟩
  tok:=fun t k n h => by
   obtain ⟨sz,fr,a,l⟩:=zee h;exact ⟨n,zfr (by rw [yb (zb a)]; exact a) l,yd _,fun _ => b t k (zb a)⟩
  tsz:=fun t sz h => by
   obtain ⟨fr,a⟩:=zgs h;exact zdy (fr:=fr) (by rw [yb (zb a)]; exact a)
  ow:=fun _ _ => rfl
  new:=fun _ _ h _ _ => h
  frame:=fun _ _ _ => rfl }
 refine ⟨H,⟨R.nb,fun id o h => ?_⟩⟩
 by_cases c : id < σ.length
 ·rw [yb c] at h
  exact zdb H rfl (fun k => b id k c) (fun _ _ _ => ⟨rfl,rfl,fun _ h => h⟩) (R.ob id o h)
 ·have e : id = σ.length:=by
   have:=zb h;simp at this;omega
  subst e;simp at h;subst h;exact d H
theorem G.nils_tv (g : G) (t k : Nat) (f : Nat → Value) : (g.nils t f).tv t k = f k:=by
 show (if t = t then f k else _) = _
 rw [if_pos rfl]
theorem zuv (R : Rel g w σ) (sz : Nat) (fr : List Nat) (f : Nat → Value) (c : ∀ k n,fr[k]? = some n → n = 0 ∧ ∃ a,f k = .slice a 0 0) :
  Ext g w σ (g.nils σ.length f) w (σ ++ [.tok sz fr]) ∧ Rel (g.nils σ.length f) w (σ ++ [.tok sz fr]) :=
 zzW R _ f fun _ => fun k n b => by
  obtain ⟨d,a,e⟩:=c k n b;exact .inl ⟨d,a,by rw [G.nils_tv]; exact e⟩
theorem zkK : ∀ fresh : List (Nat × Nat),(tokens fresh).length = fresh.length
 | [] => rfl
 | _ :: js => by simp [tokens,zkK js]
theorem zke : ∀ (fresh : List (Nat × Nat)) (t : Nat) (cs : List C),(zht t fresh cs).length = cs.length
 | [],_,_ => rfl
 | _ :: js,t,cs => by rw [zht,zke js]; simp
theorem zrb {cs : List C} {us : List Value} {j : Nat} {c : C} {u : Value} (h : zC g w σ cs us) (hu : us[j]? = some u) (l : zK g w σ c u) : zC g w σ (cs.set j c) us:=by
 have f:=zZ h;refine zmt (by simpa using f) fun i x v b a => ?_;rw [yy] at b
 by_cases e : j = i
 ·subst e
  have d : j < cs.length:=by rw [← f]; exact zb hu
  simp [d] at b;subst b;rw [hu] at a;injection a with a;rw [← a];exact l
 ·rw [if_neg e] at b
  obtain ⟨v',k,m⟩:=ze0 h b;rw [k] at a;injection a with a;rw [← a];exact m
theorem zvb {N : zhv} : rep w N (.sl []) (.slice none 0 0):=by
 rw [rep];exact ⟨none,0,0,rfl,yd _,by simp only [zcC],.inl rfl⟩
theorem zvh {σ : zd} (R : Rel g w σ) (sz : Nat) : Ext g w σ (g.nils σ.length fun _ => undef) w (σ ++ [.cells 0 sz []]) ∧ Rel (g.nils σ.length fun _ => undef) w (σ ++ [.cells 0 sz []]) :=
 zzW R _ _ fun _ h => absurd rfl h
theorem zH0 {σ : zd} {sz n q : Nat} (a : q < n) (g : G) : zK g w (σ ++ yi n (.cells 0 sz [])) (.own (σ.length + q) 0 0 0) (.slice none 0 0):=by
 rw [zK]
 have b : shapeOf (σ ++ yi n (.cells 0 sz [])) (σ.length + q) = some (0,sz,0):=by
  unfold shapeOf;rw [List.getElem?_append_right (by omega),show σ.length + q - σ.length = q by omega,yz,if_pos a];rfl
 exact ⟨0,sz,0,b,yd _,fun _ => ⟨none,0,rfl,yd _,fun _ => rfl,fun h => absurd rfl h⟩,_,_,rfl⟩
theorem zuk : ∀ (fresh : List (Nat × Nat)) {g : G} {σ : zd} {cs : List C} {a : List Value},Rel g w σ → zkx a fresh = true → zC g w σ cs a →
  ∃ g',Ext g w σ g' w (σ ++ tokens fresh) ∧ Rel g' w (σ ++ tokens fresh) ∧ zC g' w (σ ++ tokens fresh) (zht σ.length fresh cs) a
 | [],g,σ,cs,a,R,_,h => ⟨g,by simpa [tokens] using Ext.refl g w σ,by simpa [tokens] using R,by simpa [tokens,zht] using h⟩
 | j :: js,g,σ,cs,a,R,hf,h => by
   simp only [zkx,yB] at hf;obtain ⟨o,b⟩:=hf
   have p : a[j.1]? = some (.slice none 0 0):=by
    split at o
    ·assumption
    ·cases o
   by_cases c : 4096 ≤ j.2
   ·obtain ⟨H1,i⟩:=zvh R (j.2 - 4096)
    have m : zK (g.nils σ.length fun _ => undef) w (σ ++ [.cells 0 (j.2 - 4096) []]) (zI0 σ.length j.2) (.slice none 0 0):=by
     rw [zI0,if_pos c];have:=zH0 (σ:=σ) (sz:=j.2 - 4096) (n:=1) (q:=0) (w:=w) (by omega) (g.nils σ.length fun _ => undef);simpa using this
    obtain ⟨g',f,e,l⟩:=zuk js i b (zrb (H1.zC _ _ h) p m);refine ⟨g',?_,?_,?_⟩
    ·have:=H1.trans f
     simpa [tokens,zHa,if_pos c] using this
    ·simpa [tokens,zHa,if_pos c] using e
    ·simpa [tokens,zHa,if_pos c,zht] using l
   ·obtain ⟨H1,i⟩:=zuv R j.2 [0] (fun _ => .slice none 0 0) (fun k n d => ⟨by
     cases k with
     | zero => simp at d; exact d.symm
     | succ k => simp at d,none,rfl⟩)
    have m : zK (g.nils σ.length fun _ => .slice none 0 0) w (σ ++ [.tok j.2 [0]]) (zI0 σ.length j.2) (.slice none 0 0):=by
     rw [zI0,if_neg c,zK];refine ⟨zvb,0,zfr (sz:=j.2) (fr:=[0]) (by simp) (by simp),yd _,fun _ => ?_,j.2,zdy (fr:=[0]) (by simp),by simp only [zcC]⟩
     show _ = if σ.length = σ.length then _ else _
     rw [if_pos rfl]
    obtain ⟨g',f,e,l⟩:=zuk js i b (zrb (H1.zC _ _ h) p m);refine ⟨g',?_,?_,?_⟩
    ·have:=H1.trans f
     simpa [tokens,zHa,if_neg c] using this
    ·simpa [tokens,zHa,if_neg c] using e
    ·simpa [tokens,zHa,if_neg c,zht] using l
theorem zjO (R : Rel g w σ) {sz : Nat} {es : List (List C)} {us : List Value} (t : TypeId) (c : us.length = es.length * sz) (a : zeg g w σ us.toArray sz es) :
  Ext g w σ (g.own σ.length w.heap.size) (w.alloc (.cells us.toArray t)) (σ ++ [.cells 0 sz es]) ∧ Rel (g.own σ.length w.heap.size) (w.alloc (.cells us.toArray t)) (σ ++ [.cells 0 sz es]) :=
 zw5 R (.cells 0 sz es) (.cells us.toArray t) fun H b e d _ => ⟨by rw [b]; exact e,by rw [b]; exact d,us.toArray,t,by rw [b]; exact zaZ w _,by simp [c],H.zeg a⟩
theorem zmi (σ : zd) (o : Ob) : (σ ++ [o])[σ.length]? = some o:=by simp
theorem zw7 {sz : Nat} {es : List (List C)} (o : Obj) : zh (g.own σ.length w.heap.size) (w.alloc o) (σ ++ [.cells 0 sz es]) (.one (.ptr σ.length 0 0 0)) (.pointer (some ⟨w.heap.size,0,none⟩)):=by
 simp only [zh,zK];exact ⟨0,sz,es.length,zG (zmi σ _),yd _,fun _ => by simp [G.own],_,rfl⟩
theorem zrP {sz : Nat} {es : List (List C)} {us : List Value} (t : TypeId) (a : us.length = es.length * sz) :
  zh (g.own σ.length w.heap.size) (w.alloc (.cells us.toArray t)) (σ ++ [.cells 0 sz es]) (.one (.own σ.length 0 0 es.length)) (.slice (some ⟨w.heap.size,0,none⟩) es.length es.length):=by
 simp only [zh,zK];refine ⟨0,sz,es.length,zG (zmi σ _),yd _,fun _ => ⟨_,_,rfl,yd _,fun h => h,fun _ => ⟨by omega,fun _ => by simp [G.own],us.toArray,t,?_,by simp [a]⟩⟩,_,_,rfl⟩;simpa [G.own] using zaZ w (.cells us.toArray t)
theorem zoT {cs : List C} {us : List Value} (h : zC g w σ cs us) (d : ∀ u ∈ us,u.oneCell' = true) : zeg g w σ us.toArray cs.length [cs]:=fun i e a => by
 cases i with
 | succ i => simp at a
 | zero =>
   simp at a;subst a;refine ⟨rfl,fun j c k => ?_⟩;obtain ⟨u,b,f⟩:=ze0 h k;exact ⟨u,by simpa using b,f,d u (yf b)⟩
theorem zBU (R : Rel g w σ) {sz : Nat} {xs : List (List Fz)} {us : List Value} (t : TypeId) (q : Lay w g.N sz xs us) :
  ∃ g',Ext g w σ g' (w.alloc (.cells us.toArray t)) (σ ++ [.tok sz [xs.length]]) ∧ Rel g' (w.alloc (.cells us.toArray t)) (σ ++ [.tok sz [xs.length]]) ∧
    zh g' (w.alloc (.cells us.toArray t)) (σ ++ [.tok sz [xs.length]]) (.one (.ap σ.length 0 xs)) (.slice (some ⟨w.heap.size,0,none⟩) xs.length xs.length):=by
 let g' : G:={ g with tv:=fun a k => if a = σ.length then .slice (some ⟨w.heap.size,0,none⟩) xs.length xs.length else g.tv a k,ow:=zxe g.ow w.heap.size (.tk σ.length 0),N:=fun b o => g.N b o ∨ (b = w.heap.size ∧ o < xs.length * sz) }
 have f : ∀ b,b < w.heap.size → g'.ow b = g.ow b:=fun b l => zaC g.ow (k:=w.heap.size) (i:=b) _ (by omega);have x : ∀ b o,b < w.heap.size → (g'.N b o ↔ g.N b o):=fun b o l => ⟨fun h => h.elim id fun h => by omega,.inl⟩
 have m : ∀ a k,a < σ.length → g'.tv a k = g.tv a k:=fun a k h => by
  show (if a = σ.length then _ else g.tv a k) = _
  rw [if_neg (by omega)]
 have e : ∀ k,g'.tv σ.length k = .slice (some ⟨w.heap.size,0,none⟩) xs.length xs.length:=fun k => by
  show (if σ.length = σ.length then _ else _) = _
  rw [if_pos rfl]
 have H : Ext g w σ g' (w.alloc (.cells us.toArray t)) (σ ++ [.tok sz [xs.length]]) :=
  Ext.alloc R _ g' (fun _ _ => rfl) (fun a k n h => m a k (by obtain ⟨_,_,z,_⟩:=zee h; exact zb z)) f x _
 have p:=zaZ w (.cells us.toArray t);refine ⟨g',H,⟨fun b o h => ?_,fun id o h => ?_⟩,?_⟩
 ·rw [size_alloc]
  rcases h with h | h
  ·have:=R.nb b o h; omega
  ·omega
 ·by_cases d : id < σ.length
  ·rw [yb d] at h
   exact zdb H rfl (fun k => m id k d) (fun b l _ => ⟨heap_alloc_old w _ l,f b l,fun o => (x b o l).1⟩) (R.ob id o h)
  ·have u : id = σ.length:=by
    have:=zb h;simp at this;omega
   subst u;simp at h;subst h;intro k n s
   cases k with
   | succ k => simp at s
   | zero =>
     simp at s;subst s;rw [e];rcases yn xs.length with r | r
     ·exact .inl ⟨r,_,by rw [r]⟩
     ·refine .inr ⟨_,_,_,us.toArray,t,rfl,r,yd _,ze1 _ _ _,p,by simp [q.1],fun A c => ?_⟩
      rcases c with c | c
      ·exact absurd (R.nb _ _ c) (yT _)
      ·have:=c.2; omega
 ·simp only [zh,zK]
  refine ⟨zyH q.2.1 (yd _) (znd q H.keeps fun j v y => ?_),xs.length,zfr (sz:=sz) (fr:=[xs.length]) (by simp) (by simp),yd _,fun _ => (e 0).symm,sz,zdy (fr:=[xs.length]) (by simp),q.2.1⟩;have d:=zb y;rw [q.1] at d;refine ⟨.inr ⟨rfl,by omega⟩,?_⟩;rw [yI,zju p];simpa using y
theorem zGa (R : Rel g w σ) {sz : Nat} {xs : List (List Fz)} {us : List Value} (t : TypeId) (a : Lay w g.N sz xs us) :
  ∃ g',Ext g w σ g' (w.alloc (.cells us.toArray t)) σ ∧ Rel g' (w.alloc (.cells us.toArray t)) σ ∧
    zh g' (w.alloc (.cells us.toArray t)) σ (vsl xs) (.slice (some ⟨w.heap.size,0,none⟩) xs.length xs.length):=by
 obtain ⟨H,c⟩:=zvK R (.cells us.toArray t);refine ⟨_,H,c,?_⟩;simp only [vsl,zh,zK];refine zyH a.2.1 (yd _) (znd a H.keeps fun j v b => ⟨.inr rfl,?_⟩);rw [yI,zju (zaZ w _)];simpa using b
end
section
variable {P : Program} {κ : List Tmp} {loc : List (Option Tmp)} {nt : Nat} {g : G} {w : World} {r r' : R} {a : Act} {o : Go.Oper} {d : D} {next : Act → World → Prop} {Q : Exit → Act → World → Prop}
theorem zdo {t : TypeId} {b : List Value} (h : zeroOf P t = some b) : ∃ i z,P.info? t = some i ∧ i.zero = some z ∧ z.cells.toList = b:=by
 unfold zeroOf at h;rw [yg] at h;obtain ⟨z,a,d⟩:=h;rw [yc] at a;obtain ⟨i,a,c⟩:=a;exact ⟨i,z,a,c,d⟩
theorem zc8 {t : TypeId} {i : TypeInfo} {z : Value} (a : P.info? t = some i) (b : i.zero = some z) : (zeroValue t).run P w = .ok z w:=by simp [zeroValue,typeInfo,a,b]
theorem zGg (v : Rel g w r.st) (L : Low r.base r.lim r.st) (F : Fr κ loc nt g w r a) {t : TypeId} {b : List Value} {zero : List C} {fresh : List (Nat × Nat)} (m : o.op = .alloc t) (hd : okD κ nt o.dst d = true) (A : zeroOf P t = some b) (s : zg7 b zero = true) (D : zkx b fresh = true)
  (k : zsl κ (zbE o.dst d :: loc) nt g w r (aal r d zero fresh) (a.put o.dst) next) : o.wp P a w next Q:=by
 obtain ⟨i,z,E,q,y⟩:=zdo A;obtain ⟨j,l⟩:=zbg (g:=g) (w:=w) (σ:=r.st) s;obtain ⟨x,H1,p,f⟩:=zuk fresh v D j;have c:=zZ f;rw [zke] at c
 obtain ⟨B,n⟩:=zjO (sz:=zero.length) (es:=[zht r.st.length fresh zero]) (us:=b) p t (by simp [c]) (by
  have:=zoT f l
  rwa [zke] at this)
 have h : (r.st ++ tokens fresh).length = r.st.length + fresh.length:=by simp [zkK]
 have e : aal r d zero fresh = (r.allocs (tokens fresh ++ [.cells 0 zero.length [zht r.st.length fresh zero]])).put d (.one (.ptr (r.st.length + fresh.length) 0 0 0)):=rfl;rw [e] at k;refine zc2 (r1:=r.allocs (tokens fresh ++ [.cells 0 zero.length [zht r.st.length fresh zero]])) F hd (H1.trans (by simpa [R.allocs,yA] using B)) (by simpa [R.allocs,yA] using n) (L.append _) rfl rfl (u:=.pointer (some ⟨w.heap.size,0,none⟩)) ?_ ?_ k
 ·unfold execOp
  simp only [m];have : z.cells = b.toArray:=by rw [← y]
  simp [Instr.alloc,zc8 (w:=w) E q,newVar,newRow,this]
 ·have:=zw7 (g:=x) (w:=w) (σ:=r.st ++ tokens fresh) (sz:=zero.length) (es:=[zht r.st.length fresh zero]) (.cells b.toArray t)
  rw [h] at this;simpa [R.allocs,yA,zkK] using this
theorem zCN (p : Rel g w r.st) (L : Low r.base r.lim r.st) (F : Fr κ loc nt g w r a) {t : TypeId} {x : Operand} {sz : Nat} (f : o.op = .box t x) (hd : okD κ nt o.dst d = true) (n : 0 < sz)
  {b : V} (e : zh g w r.st b (a.eval x)) (h : b.cells.length = sz) (m : C.kns b.cells = true)
  (k : zsl κ (zbE o.dst d :: loc) nt g w r ((r.alloc (.cells 0 sz [b.cells])).put d (.one (.ptr r.st.length 0 0 0))) (a.put o.dst) next) : o.wp P a w next Q:=by
 subst h;obtain ⟨c,j⟩:=zjH e m n;obtain ⟨l,i⟩:=zjO (sz:=b.cells.length) (es:=[b.cells]) p t (by simp [zZ c]) (zoT c j);refine zc2 (r1:=r.alloc (.cells 0 b.cells.length [b.cells])) F hd l i (L.append _) rfl rfl (u:=.pointer (some ⟨w.heap.size,0,none⟩)) ?_ (zw7 _) k;unfold execOp;simp [f,Instr.box,newVar,newRow]
theorem zzR : ∀ (l : List Value) (k off : Nat) (cs : Array Value),off + k + l.length ≤ cs.size →
  ((l.zipIdx k).foldl (fun cs (cj : Value × Nat) => cs.setIfInBounds (off + cj.2) cj.1) cs).size = cs.size ∧
  ∀ q,((l.zipIdx k).foldl (fun cs (cj : Value × Nat) => cs.setIfInBounds (off + cj.2) cj.1) cs)[q]? = if q < off + k then cs[q]? else if q < off + k + l.length then l[q - (off + k)]? else cs[q]?
 | [],k,off,cs,_ => ⟨by simp,fun q => by
   simp only [List.zipIdx_nil,List.foldl_nil,yQ,yJ]
   split <;> rfl⟩
 | v :: l,k,off,cs,h => by
   simp only [List.length_cons] at h;obtain ⟨a,b⟩:=zzR l (k + 1) off (cs.setIfInBounds (off + k) v) (by simp; omega);simp only [List.zipIdx_cons,List.foldl_cons];refine ⟨by rw [a]; simp,fun q => ?_⟩;rw [b]
   by_cases c1 : q < off + k
   ·rw [if_pos (by omega),if_pos c1,yl,if_neg (by omega)]
   ·rw [if_neg c1]
    by_cases c2 : q = off + k
    ·subst c2
     rw [if_pos (by omega),if_pos (by simp),yl];simp;omega
    ·rw [if_neg (by omega)]
     by_cases c3 : q < off + k + (l.length + 1)
     ·rw [if_pos (by omega),if_pos (by simpa using c3),show q - (off + k) = q - (off + (k + 1)) + 1 from by omega]
      simp
     ·rw [if_neg (by omega),if_neg (by simpa using c3),yl,if_neg (by omega)]
theorem zvJ (l cs : Array Value) (off : Nat) (h : off + l.size ≤ cs.size) :
  (l.zipIdx.foldl (fun cs (cj : Value × Nat) => cs.setIfInBounds (off + cj.2) cj.1) cs).size = cs.size ∧
  ∀ q,(l.zipIdx.foldl (fun cs (cj : Value × Nat) => cs.setIfInBounds (off + cj.2) cj.1) cs)[q]? = if q < off then cs[q]? else if q < off + l.size then l.toList[q - off]? else cs[q]?:=by
 have:=zzR l.toList 0 off cs (by simpa using h);rw [← Array.foldl_toList,Array.toList_zipIdx];simpa using this
theorem zBf {σ : zd} {cs d e : List C} {us us' : List Value} {es : List Value} {off : Nat} (h : zC g w σ cs us) (he : zC g w σ e es) (o : zHw cs off e = some d) (t : us'.length = us.length)
  (b : ∀ q,us'[q]? = if q < off then us[q]? else if q < off + es.length then es[q - off]? else us[q]?) : zC g w σ d us':=by
 obtain ⟨x,r,i⟩:=zrT o;have k:=zZ he;refine zmt (by rw [t,r]; exact zZ h) fun j c u a hu => ?_;rw [i] at a;rw [b] at hu
 have sub : ∀ {l : List C} {m : List Value} {j' : Nat},zC g w σ l m → l[j']? = some c → m[j']? = some u → zK g w σ c u:=fun p s f => by
  obtain ⟨y,n,v⟩:=ze0 p s;rw [n] at f;injection f with f;rw [← f]; exact v
 by_cases c1 : j < off
 ·rw [if_pos c1] at a hu; exact sub h a hu
 ·rw [if_neg c1] at a hu
  by_cases c2 : j < off + e.length
  ·rw [if_pos c2] at a
   rw [if_pos (by omega)] at hu;exact sub he a hu
  ·rw [if_neg c2] at a
   rw [if_neg (by omega)] at hu;exact sub h a hu
def znM (κ : List Tmp) (loc : List (Option Tmp)) (place : Nat → Option (Nat × Nat)) : List (Nat × Operand) → List (Nat × Nat × X) → Bool
 | [],[] => true
 | (i,x) :: ps,(off,sz,y) :: qs => (place i == some (off,sz)) && decide (0 < sz) && okX κ loc x y && znM κ loc place ps qs
 | _,_ => false
theorem zsR {place : Nat → Option (Nat × Nat)} (F : Fr κ loc nt g w r a) : ∀ (ps : List (Nat × Operand)) (f : List (Nat × Nat × X)) (cells : Array Value) (cs b : List C),znM κ loc place ps f = true → zC g w r.st cs cells.toList → (∀ v ∈ cells.toList,v.oneCell' = true) →
  zoU r f cs = some b → ∃ cells',Instr.fill place cells (ps.map fun p => (p.1,a.eval p.2)) = some cells' ∧ zC g w r.st b cells'.toList ∧ ∀ v ∈ cells'.toList,v.oneCell' = true
 | [],[],cells,cs,b,_,h,h1,c => by
   simp only [zoU,Option.some.injEq] at c;subst c;exact ⟨cells,rfl,h,h1⟩
 | (i,x) :: ps,(off,sz,y) :: f,cells,cs,b,hp,h,h1,c => by
   simp only [znM,yB,beq_iff_eq,decide_eq_true_eq] at hp;obtain ⟨⟨⟨k,t⟩,E⟩,j⟩:=hp;simp only [zoU] at c;split at c
   ·rename_i u
    rw [yc] at c;obtain ⟨n,s,c⟩:=c;obtain ⟨o,G⟩:=zjH (F.get E) u.2 (by omega);have l:=zZ o;simp only [yk] at l;obtain ⟨H,I,_⟩:=zrT s;have m:=zZ h;simp only [yk] at m;obtain ⟨f1,f2⟩:=zvJ (a.eval x).cells cells off (by omega);have e:=zBf (us':=((a.eval x).cells.zipIdx.foldl (fun cs (cj : Value × Nat) => cs.setIfInBounds (off + cj.2) cj.1) cells).toList) h o s (by simpa using f1) (fun q => by simpa using f2 q)
    obtain ⟨cells',A,z,D⟩:=zsR F ps f _ n b j e (fun v B => by
     obtain ⟨q,d⟩:=yr.1 B;rw [yh,f2] at d;split at d
     ·exact h1 v (yf (by rw [yh]; exact d))
     ·split at d
      ·exact G v (yf d)
      ·exact h1 v (yf (by rw [yh]; exact d))) c
    refine ⟨cells',?_,z,D⟩;simp only [yt,Instr.fill,k];rw [if_neg]
    ·exact A
    ·simp only [yR,decide_eq_true_eq,not_or]
     constructor
     ·simp; omega
     ·omega
   ·cases c
 | [],_ :: _,_,_,_,hp,_,_,_ => by simp [znM] at hp
 | _ :: _,[],_,_,_,hp,_,_,_ => by simp [znM] at hp
end
def zqt (P : Program) (t : TypeId) : Option (Nat → Option (Nat × Nat)) :=
 match P.underlying t with
 | some (.array _ e) => (P.info? e).map fun ie i => some (i * ie.size,ie.size)
 | some (.struct fields) => (fields.toList.mapM (fun f => (P.info? f.type).map fun i => (f.offset,i.size))).map fun places i => places.toArray[i]?
 | _ => none
section
variable {P : Program} {κ : List Tmp} {loc : List (Option Tmp)} {nt : Nat} {g : G} {w : World} {r r' : R} {a : Act} {o : Go.Oper} {d : D} {next : Act → World → Prop} {Q : Exit → Act → World → Prop}
theorem zAJ (r : R) (os : List Ob) (x : X) : (r.allocs os).get x = r.get x:=by cases x <;> rfl
theorem zpS (r : R) (os : List Ob) : ∀ (a : List (Nat × Nat × X)) (cs : List C),zoU (r.allocs os) a cs = zoU r a cs
 | [],_ => rfl
 | (off,sz,x) :: a,cs => by
   simp only [zoU,zAJ]
   congr 1
   exact congrArg _ (funext fun c => zpS r os a c)
theorem zG0 {t : TypeId} {place : Nat → Option (Nat × Nat)} {f : List Value} {ps : List (Nat × Value)} {cells : Array Value} (j : zeroOf P t = some f) (a : zqt P t = some place) (d : Instr.fill place f.toArray ps = some cells) : P.built t ps = some cells:=by
 obtain ⟨i,z,g,c,h⟩:=zdo j;subst h;unfold zqt at a;unfold Program.built;split at a
 ·rename_i n e hu
  rw [yg] at a;obtain ⟨k,b,rfl⟩:=a;simp only [g,hu,c,b];simpa using d
 ·rename_i fs hu
  rw [yg] at a;obtain ⟨pl,b,rfl⟩:=a;simp only [g,hu,c,b];simpa using d
 ·cases a
theorem zC1 (B : Rel g w r.st) (L : Low r.base r.lim r.st) (F : Fr κ loc nt g w r a) {t : TypeId} {parts : Array (Nat × Operand)} {b : List Value} {zero : List C} {fresh : List (Nat × Nat)} {place : Nat → Option (Nat × Nat)} {c : List (Nat × Nat × X)}
  (y : o.op = .build t parts) (hd : okD κ nt o.dst d = true) (E : zeroOf P t = some b) (A : zg7 b zero = true) (G : zkx b fresh = true) (e : zqt P t = some place) (q : znM κ loc place parts.toList c = true)
  {r1 : R} (h : (zoU r c (zht r.st.length fresh zero)).map (zI4 r d fresh) = some r1) (k : zsl κ (zbE o.dst d :: loc) nt g w r r1 (a.put o.dst) next) : o.wp P a w next Q:=by
 rw [yg] at h;obtain ⟨l,h,rfl⟩:=h;obtain ⟨f,m⟩:=zbg (g:=g) (w:=w) (σ:=r.st) A;obtain ⟨p,H1,z,j⟩:=zuk fresh B G f;have D : Fr κ loc nt p w (r.allocs (tokens fresh)) a:=F.ext H1 rfl rfl;obtain ⟨cells,v,H,_⟩:=zsR (place:=place) D parts.toList c b.toArray _ l q (show zC p w (r.st ++ tokens fresh) _ b from j) (by simpa using m) (by rw [zpS]; exact h);have s:=zG0 E e v;refine zc2 (r1:=r.allocs (tokens fresh)) F hd H1 z (L.append _) rfl rfl (u:=.agg cells) ?_ ?_ k
 ·unfold execOp
  have n : P.built t (parts.map fun (i,x) => (i,a.eval x)).toList = some cells:=by simpa using s
  simp only [y,Sem.run_bind,run_build w t _ cells n,Result.andThen_ok,Sem.run_pure]
 ·simp only [zh]
  exact ⟨cells,rfl,H⟩
theorem zn2 {σ : zd} {zc : Array Value} {sz : Nat} {es : List (List C)} (m : zc.size = sz) (r : 0 < sz) (h : ∀ e ∈ es,zC g w σ e zc.toList) (p : ∀ u ∈ zc.toList,u.oneCell' = true) : zeg g w σ ((yS (es.length * sz)).map (zc[· % zc.size]!)) sz es:=fun i e k => by
 have a:=h e (yf k);have o:=zZ a;simp only [yk,m] at o;refine ⟨o.symm,fun j c l => ?_⟩;obtain ⟨u,d,q⟩:=ze0 a l;have n : j < sz:=by have:=zb l; omega
 refine ⟨u,?_,q,p u (yf d)⟩;have f:=inside (zb k) n;rw [Array.getElem?_map,yx (by simpa using f)];simp only [Array.getElem_range,Option.map_some];have b : (i * sz + j) % zc.size = j:=by rw [m,yU,Nat.mul_add_mod,Nat.mod_eq_of_lt n]
 rw [b];rw [yh] at d;rw [getElem!_pos zc j (by omega)];rw [yx (by omega)] at d;exact d
def zkk (κ : List Tmp) (loc : List (Option Tmp)) : List (Nat × Operand) → List (Nat × X) → Bool
 | [],[] => true
 | (i,x) :: ps,(j,y) :: qs => (i == j) && okX κ loc x y && zkk κ loc ps qs
 | _,_ => false
theorem zsc (F : Fr κ loc nt g w r a) {sz : Nat} (t : 0 < sz) : ∀ (ps : List (Nat × Operand)) (f : List (Nat × X)) (cells : Array Value) (es es' : List (List C)),zkk κ loc ps f = true → cells.size = es.length * sz → zeg g w r.st cells sz es →
  zqj r sz f es = some es' → ∃ cells',Instr.fill (fun i => some (i * sz,sz)) cells (ps.map fun p => (p.1,a.eval p.2)) = some cells' ∧ cells'.size = es'.length * sz ∧ zeg g w r.st cells' sz es' ∧ es'.length = es.length
 | [],[],cells,es,es',_,hs,h,hf => by
   simp only [zqj,Option.some.injEq] at hf;subst hf;exact ⟨cells,rfl,hs,h,rfl⟩
 | (i,x) :: ps,(j,y) :: f,cells,es,es',hp,hs,h,hf => by
   simp only [zkk,yB,beq_iff_eq] at hp;obtain ⟨⟨rfl,G⟩,k⟩:=hp;simp only [zqj] at hf;split at hf
   ·rename_i A
    obtain ⟨c1,c2,c3⟩:=A;obtain ⟨s,J⟩:=zjH (F.get G) c3 (by omega);have m:=zZ s;simp only [yk] at m;have o:=zCm (q:=sz) c1 (yd sz);obtain ⟨f1,f2⟩:=zvJ (a.eval x).cells cells (i * sz) (by omega)
    obtain ⟨cells',D,B,E,v⟩:=zsc F t ps f _ _ es' k (by rw [f1,hs]; simp) (fun l e b => by
     rw [yy] at b
     by_cases e1 : i = l
     ·subst e1
      simp [c1] at b;subst b;refine ⟨c2,fun j c d => ?_⟩;obtain ⟨u,m1,m2⟩:=ze0 s d;have n:=zb d;refine ⟨u,?_,m2,J u (yf m1)⟩;rw [f2,if_neg (by omega),if_pos (by omega),Nat.add_sub_cancel_left];exact m1
     ·rw [if_neg e1] at b
      obtain ⟨z,m1⟩:=h l e b;refine ⟨z,fun j c d => ?_⟩;obtain ⟨u,m2,H,I⟩:=m1 j c d;have n:=zb d;refine ⟨u,?_,H,I⟩;rw [f2];split
      ·exact m2
      ·split
       ·exfalso
        have:=apart (q:=l * sz + j - i * sz) (sz:=sz) e1 (by omega : j < sz) (by omega);omega
       ·exact m2) hf
    refine ⟨cells',?_,B,E,by rw [v]; simp⟩;simp only [yt,Instr.fill];rw [if_neg]
    ·exact D
    ·simp only [yR,decide_eq_true_eq,not_or]
     constructor
     ·simp; omega
     ·omega
   ·cases hf
 | [],_ :: _,_,_,_,hp,_,_,_ => by simp [zkk] at hp
 | _ :: _,[],_,_,_,hp,_,_,_ => by simp [zkk] at hp
theorem zia {σ : zd} {c : C} {x : Fz} {u : Value} (h : zAj c = some x) (a : zK g w σ c u) : rep w g.N x u:=by
 unfold zAj at h;split at h
 ·injection h with h; subst h; simpa only [zK] using a
 ·injection h with h; subst h; simp only [zK] at a; exact a.1
 ·cases h
theorem zhb {α : Type} {x : Option α} {xs : Option (List α)} {ys : List α} (h : zhN x xs = some ys) : ∃ y z,x = some y ∧ xs = some z ∧ ys = y :: z:=by
 unfold zhN at h;split at h
 ·injection h with h; exact ⟨_,_,rfl,rfl,h.symm⟩
 ·cases h
theorem zg1 : ∀ {cs : List C} {xs : List Fz},zgp cs = some xs → xs.length = cs.length ∧ ∀ (j : Nat) (x : Fz),xs[j]? = some x → ∃ c,cs[j]? = some c ∧ zAj c = some x
 | [],xs,h => by
   simp only [zgp,Option.some.injEq] at h;subst h;exact ⟨rfl,fun j x a => by simp at a⟩
 | c :: cs,xs,h => by
   simp only [zgp] at h;obtain ⟨y,z,b,d,rfl⟩:=zhb h;obtain ⟨l,e⟩:=zg1 d;refine ⟨by simp [l],fun j x a => ?_⟩
   cases j with
   | zero => simp at a; subst a; exact ⟨c,by simp,b⟩
   | succ j => simpa using e j x (by simpa using a)
theorem zgg : ∀ {es : List (List C)} {xs : List (List Fz)},zbo es = some xs → xs.length = es.length ∧ ∀ (i : Nat) (x : List Fz),xs[i]? = some x → ∃ e,es[i]? = some e ∧ zgp e = some x
 | [],xs,h => by
   simp only [zbo,Option.some.injEq] at h;subst h;exact ⟨rfl,fun j x a => by simp at a⟩
 | c :: cs,xs,h => by
   simp only [zbo] at h;obtain ⟨y,z,b,d,rfl⟩:=zhb h;obtain ⟨l,f⟩:=zgg d;refine ⟨by simp [l],fun j x a => ?_⟩
   cases j with
   | zero => simp at a; subst a; exact ⟨c,by simp,b⟩
   | succ j => simpa using f j x (by simpa using a)
theorem zrm {σ : zd} {arr : Array Value} {sz : Nat} {es : List (List C)} {xs : List (List Fz)} (p : arr.size = es.length * sz) (h : zeg g w σ arr sz es) (o : zbo es = some xs) : Lay w g.N sz xs arr.toList:=by
 obtain ⟨l,k⟩:=zgg o;refine ⟨by simp [p,l],zf0 fun e he => ?_,fun i e a j x q => ?_⟩
 ·obtain ⟨i,a⟩:=yr.1 he
  obtain ⟨d,f,b⟩:=k i e a;rw [(zg1 b).1];exact (h i d f).1
 ·obtain ⟨d,f,b⟩:=k i e a
  obtain ⟨c,m,n⟩:=(zg1 b).2 j x q;obtain ⟨u,m1,m2,r⟩:=(h i d f).2 j c m;exact ⟨u,by simpa using m1,zia n m2,r⟩
theorem zot {σ : zd} {sz : Nat} {xs : List (List Fz)} {us : List Value} (h : Lay w g.N sz xs us) : zeg g w σ us.toArray sz (xs.map fun e => e.map C.f):=fun i e b => by
 rw [yK,yg] at b;obtain ⟨x,a,rfl⟩:=b;refine ⟨by simpa using zcz h.2.1 a,fun j c d => ?_⟩;rw [yK,yg] at d;obtain ⟨y,k,rfl⟩:=d;obtain ⟨u,n,m,l⟩:=h.2.2 i x a j y k;exact ⟨u,by simpa using n,by simpa only [zK] using m,l⟩
def zD8 (zs : List Value) (zero : List (List C)) : Bool:=zero.all fun e => zg7 zs e
theorem zDx (N : Rel g w r.st) (L : Low r.base r.lim r.st) (F : Fr κ loc nt g w r a) {t e : TypeId} {len sz : Nat} {parts : Array (Nat × Operand)} {A : List Value} {zero : List (List C)} {K : List (Nat × X)} {b : B}
  (ho : o.op = .buildSlice t len parts) (hd : okD κ nt o.dst d = true) (Y : P.underlying t = some (.slice e)) (Z : zj1 P e = some sz) (V : 0 < sz) (hlen : zero.length = len) (aA : len * sz ≤ 16777216) (hz : zeroOf P e = some A) (I : A.length = sz) (v : A.all Value.oneCell' = true) (hc : zD8 A zero = true) (hp : zkk κ loc parts.toList K = true)
  {r1 : R} (h : (zqj r sz K zero).bind (zyU r d sz b) = some r1) (k : zsl κ (zbE o.dst d :: loc) nt g w r r1 (a.put o.dst) next) : o.wp P a w next Q:=by
 subst hlen;rw [yc] at h;obtain ⟨es',h,c⟩:=h;obtain ⟨i,z,D,h2,h3⟩:=zdo hz;subst h3;have S : z.cells.size = sz:=by simpa using I
 have M : ∀ u ∈ z.cells.toList,u.oneCell' = true:=fun u hu => yN.1 v u hu;have p:=zn2 (g:=g) (w:=w) (σ:=r.st) (zc:=z.cells) (es:=zero) S V (fun e he => (zbg (yN.1 hc e he)).1) M;obtain ⟨cells,k1,E,G,k4⟩:=zsc F V parts.toList K _ zero es' hp (by simp) p h;have W : es'.length = zero.length:=k4
 have f : (execOp a.eval o).run P w = .ok (.value (.slice (some ⟨w.heap.size,0,none⟩) es'.length es'.length)) (w.alloc (.cells cells e)):=by
  unfold zj1 at Z;have y : i.size = sz:=by simpa [D] using Z
  have n : ¬ (16777216 < zero.length * sz):=by omega
  have l : Instr.fill (fun i => some (i * sz,sz)) ((yS (zero.length * sz)).map (z.cells[· % z.cells.size]!)) (parts.map fun (i,x) => (i,a.eval x)).toList = some cells:=by simpa using k1
  unfold execOp;simp only [ho]
  by_cases m : zero.length = 0
  ·have O : (yS (zero.length * sz)).map (z.cells[· % z.cells.size]!) = (yS (zero.length * sz)).map ((#[] : Array Value)[· % (#[] : Array Value).size]!):=by simp [m,Array.range_zero']
   rw [O] at l;simp [Instr.buildSlice,run_underlying Y,sizeOf,typeInfo,D,y,m,newRow,W];simp [m] at l;simp [l]
  ·have U : ¬ (zero.length * sz = 0):=Nat.mul_ne_zero m (by omega)
   simp [Instr.buildSlice,run_underlying Y,sizeOf,typeInfo,D,y,n,U,zc8 (w:=w) D h2,newRow,W];simp at l;simp [l]
 have J : cells = cells.toList.toArray:=by simp
 rw [J] at f
 cases b with
 | fz =>
   simp only [zyU,yg] at c;obtain ⟨xs,c,rfl⟩:=c;have j:=zrm E G c;rw [← (zgg c).1] at f;obtain ⟨g',H,q,s⟩:=zGa N e j;exact zc2 (r1:=r) F hd H q L rfl rfl f s k
 | tk =>
   simp only [zyU,yg] at c;obtain ⟨xs,c,rfl⟩:=c;have j:=zrm E G c;rw [← (zgg c).1] at f;obtain ⟨g',H,q,s⟩:=zBU N e j;exact zc2 (r1:=r.alloc (.tok sz [xs.length])) F hd H q (L.append _) rfl rfl f s k
 | rw =>
   simp only [zyU,Option.some.injEq] at c;subst c;obtain ⟨H,q⟩:=zjO (sz:=sz) (es:=es') N e (us:=cells.toList) (by simpa using E) (by simpa using G);have s:=zrP (g:=g) (w:=w) (σ:=r.st) (sz:=sz) (es:=es') (us:=cells.toList) e (by simpa using E);exact zc2 (r1:=r.alloc (.cells 0 sz es')) F hd H q (L.append _) rfl rfl f s k
end
section
variable {P : Program} {κ : List Tmp} {loc : List (Option Tmp)} {nt : Nat} {g : G} {w : World} {r r' : R} {a : Act} {o : Go.Oper} {d : D} {next : Act → World → Prop} {Q : Exit → Act → World → Prop}
theorem zCZ {σ : zd} {sz : Nat} {f : Nat → Value} (fr : List Nat) {k : Nat} (b : fr[k]? = some 0) (a : f k = .slice none 0 0) : zK (g.nils σ.length f) w (σ ++ [.tok sz fr]) (.ap σ.length k []) (.slice none 0 0):=by
 rw [zK];exact ⟨zvb,0,zfr (sz:=sz) (fr:=fr) (by simp) b,yd _,fun _ => by rw [G.nils_tv,a],sz,zdy (fr:=fr) (by simp),by simp only [zcC]⟩
theorem zzP (i : Rel g w r.st) (L : Low r.base r.lim r.st) (F : Fr κ loc nt g w r a) {b : B} {sz : Nat} (j : o.op = .move (.const (.slice none 0 0)) ∨ o.op = .assign (.const (.slice none 0 0))) (hd : okD κ nt o.dst d = true)
  {r1 : R} (h : anl r d sz b = some r1) (k : zsl κ (zbE o.dst d :: loc) nt g w r r1 (a.put o.dst) next) : o.wp P a w next Q:=by
 have c:=zuI (P:=P) (w:=w) (a:=a) j
 cases b with
 | fz =>
   simp only [anl,Option.some.injEq] at h;subst h;exact zov i L F hd c (by simpa only [vsl,zh,zK,Act.eval] using zvb) k
 | tk =>
   simp only [anl,Option.some.injEq] at h;subst h
   obtain ⟨H,f⟩:=zuv i sz [0] (fun _ => .slice none 0 0) (fun k n e => ⟨by
    cases k with
    | zero => simp at e; exact e.symm
    | succ k => simp at e,none,rfl⟩)
   exact zc2 (r1:=r.alloc (.tok sz [0])) F hd H f (L.append _) rfl rfl c (by simp only [zh]; exact zCZ (sz:=sz) [0] (by simp) rfl) k
 | rw =>
   simp only [anl,Option.some.injEq] at h;subst h;obtain ⟨H,f⟩:=zvh i sz;refine zc2 (r1:=r.alloc (.cells 0 sz [])) F hd H f (L.append _) rfl rfl c ?_ k;simp only [zh,zK,Act.eval];exact ⟨0,sz,0,zG (zmi _ _),yd _,fun _ => ⟨none,0,rfl,yd _,fun _ => rfl,fun h => absurd rfl h⟩,_,_,rfl⟩
theorem zv1 {t e : TypeId} {i : TypeInfo} {z : Value} (g : P.underlying t = some (.slice e)) (c : P.info? e = some i) (d : i.zero = some z) {a : IntKind} {k : Int} (b : 0 ≤ k) (f : k ≤ LIM) (j : i.bytes ≤ 32768) :
  (Instr.makeSlice t (.int a k) (.int a k)).run P w = .ok (.slice (some ⟨w.heap.size,0,none⟩) k.toNat k.toNat) (w.alloc (.cells (madeCells z.cells (k.toNat * i.size)) e)):=by
 unfold LIM at f;refine run_make w t e i z g c d a a k k b (yV _) ?_ (by omega);have h : (i.bytes : Int) * k ≤ 32768 * k:=yo (by omega) b;omega
theorem zCv (K : Rel g w r.st) (L : Low r.base r.lim r.st) (F : Fr κ loc nt g w r a) {t e : TypeId} {x : Operand} {sz : Nat} {i : TypeInfo} {B : List Value} {zero : List C} {fresh : Option (Nat × Nat)}
  (S : o.op = .makeSlice t x x) (hd : okD κ nt o.dst d = true) (ht : P.underlying t = some (.slice e)) (J : P.info? e = some i) (O : i.bytes ≤ 32768) (hs : i.size = sz) (G : 0 < sz) (hz : zeroOf P e = some B) (s : B.length = sz) (Y : zg7 B zero = true)
  (hf : ∀ j,fresh = some j → B[j.1]? = some (.slice none 0 0)) {I : V} (N : zh g w r.st I (a.eval x)) {r1 : R} (h : zI2 r d zero fresh I = some r1) (k : zsl κ (zbE o.dst d :: loc) nt g w r r1 (a.put o.dst) next) : o.wp P a w next Q:=by
 obtain ⟨i',z,D,W,h3⟩:=zdo hz;rw [J] at D;injection D with D;subst D;subst h3;have v : z.cells.size = sz:=by simpa using s
 obtain ⟨f,A⟩:=zbg (g:=g) (w:=w) (σ:=r.st) Y;have p : zero.length = sz:=by rw [← zZ f]; exact s
 have c : ∀ l m,a.eval x = .int l m → 0 ≤ m → m ≤ LIM → (execOp a.eval o).run P w = .ok (.value (.slice (some ⟨w.heap.size,0,none⟩) m.toNat m.toNat)) (w.alloc (.cells (madeCells z.cells (m.toNat * sz)).toList.toArray e)):=fun l m ex X m1 => by
  unfold execOp;simp only [S,ex,Sem.run_bind,zv1 (P:=P) (w:=w) ht J W X m1 O,Result.andThen_ok,Sem.run_pure,hs]
 unfold zI2 at h;split at h
 ·rename_i l m
  obtain ⟨ex,_⟩:=zaf N;split at h
  ·rename_i hm
   injection h with h;subst h;rw [p] at k;have hlen : (yi m.toNat zero).length = m.toNat:=(by simp);have y : (madeCells z.cells (m.toNat * sz)).toList.length = (yi m.toNat zero).length * sz:=by simp [size_madeCells]
   have b : zeg g w r.st (madeCells z.cells (m.toNat * sz)).toList.toArray sz (yi m.toNat zero):=by
    have:=zn2 (g:=g) (w:=w) (σ:=r.st) (es:=yi m.toNat zero) v G (fun e he => by rw [(yG.1 he).2]; exact f) A;rw [hlen] at this;rw [yE];exact this
   obtain ⟨H,E⟩:=zjO K e y b;have u:=zrP (g:=g) (w:=w) (σ:=r.st) e y;rw [hlen] at u;exact zc2 (r1:=r.alloc (.cells 0 sz (yi m.toNat zero))) F hd H E (L.append _) rfl rfl (c l m ex hm.1 hm.2) u k
  ·cases h
 ·rename_i j l m
  obtain ⟨ex,_⟩:=zaf N;split at h
  ·rename_i hm
   injection h with h;subst h;rw [p] at k;obtain ⟨H1,E⟩:=zuv K j.2 (yi m.toNat 0) (fun _ => .slice none 0 0) (fun q n Z => ⟨(yG.1 (yf Z)).2,none,rfl⟩);have hlen : ((yH m.toNat).map (nest r.st.length zero j.1)).length = m.toNat:=(by simp);have y : (madeCells z.cells (m.toNat * sz)).toList.length = ((yH m.toNat).map (nest r.st.length zero j.1)).length * sz:=by simp [size_madeCells]
   have b : zeg (g.nils r.st.length fun _ => .slice none 0 0) w (r.st ++ [.tok j.2 (yi m.toNat 0)]) (madeCells z.cells (m.toNat * sz)).toList.toArray sz ((yH m.toNat).map (nest r.st.length zero j.1)):=by
    have:=zn2 (g:=g.nils r.st.length fun _ => .slice none 0 0) (w:=w) (σ:=r.st ++ [.tok j.2 (yi m.toNat 0)]) (es:=(yH m.toNat).map (nest r.st.length zero j.1)) v G (fun e he => by
     obtain ⟨q,M,rfl⟩:=List.mem_map.1 he;rw [List.mem_range] at M
     exact zrb (H1.zC _ _ f) (hf j rfl) (zCZ _ (by simp [yz,M]) rfl)) A
    rw [hlen] at this;rw [yE];exact this
   obtain ⟨H,U⟩:=zjO E e y b;have u:=zrP (g:=g.nils r.st.length fun _ => .slice none 0 0) (w:=w) (σ:=r.st ++ [.tok j.2 (yi m.toNat 0)]) e y;rw [hlen] at u;refine zc2 (r1:=r.allocs [.tok j.2 (yi m.toNat 0),.cells 0 sz ((yH m.toNat).map (nest r.st.length zero j.1))]) F hd (H1.trans (by simpa [R.allocs] using H)) (by simpa [R.allocs] using U) (L.append _) rfl rfl (c l m ex hm.1 hm.2) (by simpa [R.allocs] using u) k
  ·cases h
 ·cases h
theorem zCu (i : Rel g w r.st) (L : Low r.base r.lim r.st) (F : Fr κ loc nt g w r a) {t : TypeId} (c : o.op = .makeMap t none) (hd : okD κ nt o.dst d = true)
  (k : zsl κ (zbE o.dst d :: loc) nt g w r ((r.alloc (.mp [])).put d (.one (.map r.st.length))) (a.put o.dst) next) : o.wp P a w next Q:=by
 obtain ⟨H,f⟩:=zw5 i (.mp []) (.map #[] 0) fun H b h e => ⟨by rw [b]; exact h,by rw [b]; exact e,#[],0,by rw [b]; exact zaZ w _,⟨[],.nil,by simp,rfl⟩,by simp,by simp⟩;refine zc2 (r1:=r.alloc (.mp [])) F hd H f (L.append _) rfl rfl (u:=.map (some w.heap.size)) ?_ ?_ k
 ·unfold execOp
  simp [c,Instr.makeMap]
 ·simp only [zh,zK]
  exact ⟨⟨[],zmi _ _⟩,by simp [G.own]⟩
theorem zzY {σ : zd} (l : Rel g w σ) {sz c : Nat} {cur : Array Value} (t : TypeId) (x : cur.size = c * sz) :
  ∃ g',Ext g w σ g' (w.alloc (.cells cur t)) (σ ++ [.tok sz [0]]) ∧ Rel g' (w.alloc (.cells cur t)) (σ ++ [.tok sz [0]]) ∧
    zh g' (w.alloc (.cells cur t)) (σ ++ [.tok sz [0]]) (.one (.ap σ.length 0 [])) (.slice (some ⟨w.heap.size,0,none⟩) 0 c):=by
 let g' : G:={ g with tv:=fun a k => if a = σ.length then .slice (some ⟨w.heap.size,0,none⟩) 0 c else g.tv a k,ow:=zxe g.ow w.heap.size (.tk σ.length 0) }
 have e : ∀ b,b < w.heap.size → g'.ow b = g.ow b:=fun b m => zaC g.ow (k:=w.heap.size) (i:=b) _ (by omega)
 have f : ∀ a k,a < σ.length → g'.tv a k = g.tv a k:=fun a k h => by
  show (if a = σ.length then _ else g.tv a k) = _
  rw [if_neg (by omega)]
 have d : ∀ k,g'.tv σ.length k = .slice (some ⟨w.heap.size,0,none⟩) 0 c:=fun k => by
  show (if σ.length = σ.length then _ else _) = _
  rw [if_pos rfl]
 have H : Ext g w σ g' (w.alloc (.cells cur t)) (σ ++ [.tok sz [0]]) :=
  Ext.alloc l _ g' (fun _ _ => rfl) (fun a k n h => f a k (by obtain ⟨_,_,v,_⟩:=zee h; exact zb v)) e (fun _ _ _ => Iff.rfl) _
 have s:=zaZ w (.cells cur t);refine ⟨g',H,⟨fun b o h => ?_,fun id o h => ?_⟩,?_⟩
 ·rw [size_alloc]
  have:=l.nb b o h;omega
 ·by_cases j : id < σ.length
  ·rw [yb j] at h
   exact zdb H rfl (fun k => f id k j) (fun b m _ => ⟨heap_alloc_old w _ m,e b m,fun _ h => h⟩) (l.ob id o h)
  ·have u : id = σ.length:=by
    have:=zb h;simp at this;omega
   subst u;simp at h;subst h;intro k n r
   cases k with
   | succ k => simp at r
   | zero =>
     simp at r;subst r;rw [d];rcases yn c with p | p
     ·exact .inl ⟨rfl,_,by rw [p]⟩
     ·exact .inr ⟨_,_,_,cur,t,rfl,p,yW _,ze1 _ _ _,s,by simp [x],fun y q => absurd (l.nb _ _ q) (yT _)⟩
 ·simp only [zh,zK,rep]
  exact ⟨⟨_,c,sz,rfl,yW _,by simp only [zcC],.inl trivial⟩,0,zfr (sz:=sz) (fr:=[0]) (by simp) (by simp),yd _,fun _ => (d 0).symm,sz,zdy (fr:=[0]) (by simp),by simp only [zcC]⟩
theorem zER (s : Rel g w r.st) (L : Low r.base r.lim r.st) (F : Fr κ loc nt g w r a) {t e : TypeId} {x : Operand} {f : IntKind} {sz : Nat} {i : TypeInfo} {z : Value}
  (l : o.op = .makeSlice t (.const (.int f 0)) x) (hd : okD κ nt o.dst d = true) (y : P.underlying t = some (.slice e)) (n : P.info? e = some i) (D : i.bytes ≤ 32768) (A : i.size = sz) (v : i.zero = some z)
  {j : V} (B : zh g w r.st j (a.eval x)) {r1 : R} (h : zJj r d sz j = some r1) (k : zsl κ (zbE o.dst d :: loc) nt g w r r1 (a.put o.dst) next) : o.wp P a w next Q:=by
 unfold zJj at h;split at h
 ·rename_i q m
  obtain ⟨ex,_⟩:=zaf B;split at h
  ·rename_i hm
   injection h with h;subst h;have C : m ≤ LIM:=hm.2;unfold LIM at C
   have b:=run_make (P:=P) w t e i z y n v f q 0 m (yV _) hm.1 (by
    have E : (i.bytes : Int) * m ≤ 32768 * m:=yo (by omega) hm.1
    omega) (by omega)
   simp only [Int.toNat_zero] at b;obtain ⟨g',H,p,u⟩:=zzY (c:=m.toNat) (sz:=sz) (cur:=madeCells z.cells (m.toNat * i.size)) s e (by rw [size_madeCells,A]);refine zc2 (r1:=r.alloc (.tok sz [0])) F hd H p (L.append _) rfl rfl ?_ u k;unfold execOp;have e0 : a.eval (.const (.int f 0)) = .int f 0:=rfl;simp only [l,ex,e0,Sem.run_bind,b,Result.andThen_ok,Sem.run_pure]
  ·cases h
 ·cases h
end
section
variable {P : Program} {κ : List Tmp} {loc : List (Option Tmp)} {nt : Nat} {g : G} {w : World} {r r' : R} {a : Act} {o : Go.Oper} {d : D} {next : Act → World → Prop} {Q : Exit → Act → World → Prop}
def At (w : World) (b : Option Addr) (vs : List Value) : Prop:=∀ ad,b = some ad → ∀ j v,vs[j]? = some v → w.cell? (ad.add j) = some v
theorem zkU {t ty e : TypeId} {i : TypeInfo} {z : Value} (p : P.underlying t = some (.slice e)) (m : P.info? e = some i) (o : i.zero = some z) {base j : Option Addr} {sLen sCap n c : Nat} {a news : List Value}
  (h : a.length = sLen * i.size) (holds : At w base a) (s : base = none → sCap = 0) (hle : sLen ≤ sCap) (r : news.length = n * i.size) (f : At w j news) (v : j = none → n = 0)
  (l : sCap < sLen + n) (g : sLen + n ≤ LIM) (k : i.bytes ≤ 32768) :
  (Builtin.append_ #[t,t] ty #[.slice base sLen sCap,.slice j n c]).run P w =
   .ok (.slice (some ⟨w.heap.size,0,none⟩) (sLen + n) (grownCap w (sLen + n) sCap e)) (w.drew.alloc (.cells (a.toArray ++ news.toArray ++ Builtin.zeroCells z.cells (grownCap w (sLen + n) sCap e - (sLen + n))) e)):=by
 unfold LIM at g
 have d : (sLen + n) * i.bytes ≤ 140737488355328:=by
  have q : (sLen + n) * i.bytes ≤ 4294967296 * 32768:=Nat.mul_le_mul g k;omega
 cases j with
 | none => have:=v rfl; omega
 | some ad =>
   cases base with
   | some b => exact run_append_grow w t ty e i z p m o b sLen sCap a h (holds b rfl) ad n c news r (f ad rfl) l (by omega) (growslice_fits l d)
   | none =>
     have u:=s rfl;subst u;have q : sLen = 0:=(by omega);subst q;have x : a = []:=ya (by simpa using h);subst x;have:=run_append_nil w t ty e i z p m o ad n c news r (f ad rfl) (by omega) (by omega) (by rw [yI] at d; omega);simpa using this
theorem zkQ {t ty e : TypeId} {i : TypeInfo} (q : P.underlying t = some (.slice e)) (m : P.info? e = some i) {b off : Nat} {h : Option Addr} {sLen sCap n c : Nat} {news : List Value} {cur : Array Value} {j : TypeId} (s : w.heap[b]? = some (.cells cur j (0,0)))
  (k : news.length = n * i.size) (a : At w h news) (l : h = none → n = 0) (r : ∀ u ∈ news,u.oneCell' = true) (d : sLen + n ≤ sCap) (f : off + sLen * i.size + news.length ≤ cur.size) :
  (Builtin.append_ #[t,t] ty #[.slice (some ⟨b,off,none⟩) sLen sCap,.slice h n c]).run P w = .ok (.slice (some ⟨b,off,none⟩) (sLen + n) sCap) (w.setRow b (zcD cur (off + sLen * i.size) news)):=by
 have p : (Builtin.firstCells i.size n (.slice h n c)).run P w = .ok news.toArray w:=by
  cases h with
  | none =>
    have:=l rfl;subst this;have o : news = []:=ya (by simpa using k);subst o;exact run_firstCells_none w _ _ _ _
  | some ad => exact run_firstCells_some w i.size n ad n c news k (a ad rfl)
 have g:=run_storeCells_at P b (off + sLen * i.size) j news 0 cur w s (by simpa using f) r;simp only [yJ] at g;simp [Builtin.append_,run_underlying q,sizeOf,typeInfo,m,Builtin.lenOf,d,p,Addr.add_lit,g,zcD]
theorem zk7 {t ty e : TypeId} {i : TypeInfo} (f : P.underlying t = some (.slice e)) (b : P.info? e = some i) {base a : Option Addr} {c0 c : Nat} :
  (Builtin.append_ #[t,t] ty #[.slice base 0 c0,.slice a 0 c]).run P w = .ok (.slice base 0 c0) w:=by
 have d : (Builtin.firstCells i.size 0 (.slice a 0 c)).run P w = .ok #[] w:=by
  cases a with
  | none => exact run_firstCells_none w _ _ _ _
  | some ad => simpa using run_firstCells_some (P:=P) w i.size 0 ad 0 c [] (by simp) (by simp)
 cases base <;> simp [Builtin.append_,run_underlying f,sizeOf,typeInfo,b,Builtin.lenOf,d,storeCells]
theorem zxt {sz : Nat} {xs : List (List Fz)} (h : zt9 sz xs = true) : zcC sz xs:=zf0 (zmF h)
theorem zj2 (R0 : Rel g w r.st) {v : V} {u : Value} {ys : List (List Fz)} {sz : Nat} (L : zh g w r.st v u) (h : elems r.st v = some ys) (q : zt9 sz ys = true) :
  ∃ a' c news,u = .slice a' ys.length c ∧ Lay w g.N sz ys news ∧ At w a' news ∧ (a' = none → ys.length = 0):=by
 have frz : rep w g.N (.sl ys) u → ∃ a' c news,u = .slice a' ys.length c ∧ Lay w g.N sz ys news ∧ At w a' news ∧ (a' = none → ys.length = 0):=fun hr => by
  obtain ⟨a',c,J,us,e,_,O,I⟩:=zs6 hr fun _ _ h => zul h;rcases I with rfl | ⟨b,oo,rfl,I⟩
  ·refine ⟨a',c,[],e,⟨by simp,by simp only [zcC],fun i e h => by simp at h⟩,fun ad _ j v h => by simp at h,fun _ => rfl⟩
  ·refine ⟨_,c,us,e,?_,fun ad e1 j v f => ?_,fun h => by cases h⟩
   ·cases ys with
    | nil => exact ⟨by simpa using O.1,by simp only [zcC],fun i e h => by simp at h⟩
    | cons y ys =>
      have e1 : J = sz:=by rw [← zgq O.2.1 y (by simp),zmF q y (by simp)]
      rwa [e1] at O
   ·injection e1 with e1
    subst e1;rw [za6];exact I j v f
 unfold elems at h;split at h
 ·rename_i id Z lo n
  rw [yc] at h;obtain ⟨ob,X,B⟩:=h;unfold Ob.frz at B;split at B
  ·rename_i R d es
   split at B
   ·rename_i C
    subst C;obtain ⟨a',c,e1,e2,e3,e4⟩:=zh4 L X;obtain ⟨A,D⟩:=zgg B
    by_cases z : es = []
    ·subst z
     have:=e3 rfl;have hn : n = 0:=(by omega);subst hn;simp at A;subst A;exact ⟨a',c,[],e1,⟨by simp,by simp only [zcC],fun i e h => by simp at h⟩,fun ad _ j v h => by simp at h,fun _ => rfl⟩
    ·obtain ⟨f1,f2,arr,t,f3,f4⟩:=e4 fun h => z (ya h)
     obtain ⟨_,_,E,t',m1,m2,W⟩:=R0.ob id _ X z;rw [m1] at f3;injection f3 with f3;injection f3 with f3 _;subst f3;have k : ys.length = n:=by rw [A]; simp; omega
     have p : ∀ i e,((es.drop lo).take n)[i]? = some e → es[lo + i]? = some e:=fun i e o => by
      rw [ye] at o;split at o
      ·rwa [yp] at o
      ·cases o
     have m : ys ≠ [] → d = sz:=fun a => by
      cases ys with
      | nil => exact absurd rfl a
      | cons y ys =>
        obtain ⟨e,K,Q⟩:=D 0 y (by simp);rw [← (W _ e (p 0 e K)).1,← (zg1 Q).1];exact zmF q y (by simp)
     refine ⟨a',c,(E.toList.drop (lo * d)).take (n * sz),by rw [k]; exact e1,⟨?_,zxt q,fun i y o j x f => ?_⟩,fun ad l j v f => ?_,fun Y => ?_⟩
     ·rw [k,yv,List.length_drop,yk]
      by_cases a : ys = []
      ·have : n = 0:=by rw [← k,a]; rfl
       simp [this]
      ·have M:=m a
       subst M;have : (lo + n) * d ≤ es.length * d:=yj _ f1;rw [yq] at this;omega
     ·have a : ys ≠ []:=fun h => by subst h; simp at o
      have M:=m a;subst M;obtain ⟨e,K,Q⟩:=D i y o;obtain ⟨cc,S,h7⟩:=(zg1 Q).2 j x f;obtain ⟨h8,h9⟩:=W _ e (p i e K);obtain ⟨u',U,q2,q3⟩:=h9 j cc S;refine ⟨u',?_,zia h7 q2,q3⟩;have aA:=zb o;have P : j < d:=(by have:=zb S; omega);have s:=inside (n:=n) (by omega : i < n) P;rw [ye,if_pos s,yp,yh];rw [yq,Nat.add_assoc] at U;exact U
     ·have s:=zb f
      rw [ye] at f;split at f
      ·rw [yp,yh] at f
       have aB : n ≠ 0:=fun G => by subst G; simp at s
       have H : c ≠ 0:=(by omega);rw [f2 H] at l;injection l with l;subst l;rw [za6,zju m1];exact f
      ·cases f
     ·rw [k]
      have : c = 0:=by
       rcases yn c with G | G
       ·exact G
       ·rw [f2 (by omega)] at Y; cases Y
      omega
   ·cases B
  ·cases B
 ·injection h with h
  subst h;exact frz (zvi L)
 ·injection h with h
  subst h;exact frz (zt4 L)
 ·cases h
theorem zFm {σ : zd} {t : Nat} {a : Ob} (h : σ[t]? = some a) : σ.set t a = σ:=by
 refine yL fun i => ?_;rw [zyz];split
 ·rename_i b; rw [← b.1]; exact h.symm
 ·rfl
theorem zCk {fr : List Nat} {k n : Nat} (h : fr[k]? = some n) : fr.set k n = fr:=by
 refine yL fun i => ?_;rw [yy];split
 ·rename_i a
  subst a;rw [if_pos (zb h)];exact h.symm
 ·rfl
theorem zAX {sz k n : Nat} {a : Ob} (h : a.front sz k = some n) : ∃ fr,a = .tok sz fr ∧ fr[k]? = some n:=by
 unfold Ob.front at h;split at h
 ·split at h
  ·rename_i e; subst e; exact ⟨_,rfl,h⟩
  ·cases h
 ·cases h
theorem zyl {N : zhv} {sz : Nat} (e : 0 < sz) {ys : List (List Fz)} {news : List Value} (a : Lay w N sz ys news) : ∀ v ∈ news,v.oneCell' = true:=fun v f => by
 obtain ⟨q,d⟩:=yr.1 f;have b:=zb d;rw [a.1] at b;have e1 : q / sz < ys.length:=(Nat.div_lt_iff_lt_mul e).2 b;have e2 : q % sz < sz:=Nat.mod_lt _ e;have e3:=zcz a.2.1 (ym e1);obtain ⟨u,c,_,g⟩:=a.2.2 _ _ (ym e1) _ _ (ym (by rw [e3]; exact e2));have e4 : q / sz * sz + q % sz = q:=by rw [yU]; exact Nat.div_add_mod q sz
 rw [e4,d] at c;injection c with c;rw [c]; exact g
theorem zCE (K : Rel g w r.st) (L : Low r.base r.lim r.st) (F : Fr κ loc nt g w r a) {t e : TypeId} {s x : Operand} {sz : Nat} {i : TypeInfo} {zs : List Value} {ct : Go.Call}
  (ho : o.op = .call ct) (S : ct.callee = .builtin .append) (G : ct.args = #[s,x]) (W : ct.argTypes = #[t,t])
  (hd : okD κ nt o.dst d = true) (ht : P.underlying t = some (.slice e)) (X : P.info? e = some i) (hb : i.bytes ≤ 32768) (hs : i.size = sz) (h0 : 0 < sz) (hz : zeroOf P e = some zs) (aD : zs.length = sz)
  {D k : Nat} {xs ys : List (List Fz)} (O : zh g w r.st (.one (.ap D k xs)) (a.eval s)) {vx : V} (aK : zh g w r.st vx (a.eval x)) (aI : elems r.st vx = some ys) (aH : zt9 sz ys = true)
  {r1 : R} (h : (r.st[D]?).bind (zpK r d sz D k xs ys) = some r1) (kk : zsl κ (zbE o.dst d :: loc) nt g w r r1 (a.put o.dst) next) : o.wp P a w next Q:=by
 subst hs;rw [yc] at h;obtain ⟨ob,f,h⟩:=h;unfold zpK at h;split at h
 ·rename_i hc
  obtain ⟨aA,M⟩:=hc;injection h with h;subst h;obtain ⟨fr,rfl,I⟩:=zAX aA;obtain ⟨iz,z,Y,h2,h3⟩:=zdo hz;rw [X] at Y;injection Y with Y;subst Y;subst h3;have aM : z.cells.size = i.size:=by simpa using aD
  simp only [zh,zK] at O;obtain ⟨m,n,A,_,aL,aS,B,E⟩:=O;rw [zfr f I] at A;injection A with A;subst A;rw [zdy f] at B;injection B with B;subst B;have hu:=aL rfl;obtain ⟨a',c,news,ex,b,U,q⟩:=zj2 K aK aI aH;have u:=zyl h0 b
  have hexec : ∀ {v' : Value} {w' : World},(Builtin.append_ #[t,t] o.type #[a.eval s,a.eval x]).run P w = .ok v' w' → (execOp a.eval o).run P w = .ok (.value v') w':=fun {v' w'} hr => by
   unfold execOp;simp only [ho,resolve,S,G,W,invoke,builtin,Sem.run_bind,Sem.run_pure,Result.andThen_ok,yw,yt,yF,hr]
  obtain ⟨b0,c0,us,e0,aB,l,aQ⟩ : ∃ b0 c0 us,a.eval s = .slice b0 xs.length c0 ∧ xs.length ≤ c0 ∧ Lay w g.N i.size xs us ∧ At w b0 us:=by
   obtain ⟨b0,c0,aJ,us,e1,e2,e3,e4⟩:=zs6 m fun _ _ h => zul h;rcases e4 with rfl | ⟨bb,oo,rfl,e5⟩
   ·exact ⟨b0,c0,[],e1,e2,⟨by simp,by simp only [zcC],fun i e h => by simp at h⟩,fun ad _ j v h => by simp at h⟩
   ·refine ⟨_,c0,us,e1,e2,?_,fun ad H j v hj => ?_⟩
    ·cases xs with
     | nil => exact ⟨by simpa using e3.1,by simp only [zcC],fun i e h => by simp at h⟩
     | cons y ys =>
       have e6 : aJ = i.size:=by rw [← zgq e3.2.1 y (by simp),zgq E y (by simp)]
       rwa [e6] at e3
    ·injection H with H
     subst H;rw [za6];exact e5 j v hj
  have C:=K.ob D _ f k _ I
  by_cases p : xs.length + ys.length ≤ c0
  ·by_cases hzero : xs.length + ys.length = 0
   ·
    have aF : ys = []:=ya (by omega);have aE : xs = []:=ya (by omega);subst aF aE
    have aN : r.setOb D ((Ob.tok i.size fr).setFront k 0) = r:=by
     have e1 : (Ob.tok i.size fr).setFront k 0 = .tok i.size fr:=by
      show Ob.tok i.size (fr.set k 0) = _
      rw [zCk (by simpa using I)]
     rw [e1];unfold R.setOb;rw [zFm f]
    have aC : zsl κ (zbE o.dst d :: loc) nt g w r (r.put d (.one (.ap D k []))) (a.put o.dst) next:=by simpa [aN] using kk
    refine zov K L F hd (hexec (v':=.slice b0 0 c0) ?_) ?_ aC
    ·rw [e0,ex]
     exact zk7 ht X
    ·simp only [zh,zK]
     have aP : a.eval s = .slice b0 0 c0:=(by simpa using e0);rw [← aP];exact ⟨m,_,zfr f I,yd _,fun _ => hu,_,zdy f,E⟩
   ·rcases C with ⟨m0,ma,m1⟩ | ⟨bb,oo,cc,arr,ty,m1,m2,m3,m4,m5,m6,m7⟩
    ·rw [← hu,e0] at m1
     injection m1 with _ _ m1;omega
    ·rw [← hu,e0] at m1
     injection m1 with m1 _ m1c;subst m1 m1c;rw [e0] at m;obtain ⟨aR,aT,g',q1,q2,q3,Z,q5⟩:=zGA K f I (by rw [← hu,e0]) (by omega) m E b p;refine zc2 (r1:=r.setOb D (.tok i.size (fr.set k (xs.length + ys.length)))) F hd q3 Z L.set rfl rfl (hexec ?_) (by simp only [zh]; exact q5) kk;rw [e0,ex];exact zkQ ht X q1 b.1 U q u p q2
  ·have aG:=grownCap_ge w (xs.length + ys.length) c0 e
   have aO : b0 = none → c0 = 0:=fun hb => by
    rcases C with ⟨m0,ma,m1⟩ | ⟨bb,oo,cc,arr,ty,m1,_⟩
    ·rw [← hu,e0] at m1
     injection m1
    ·rw [← hu,e0] at m1
     injection m1 with m1 _ _;rw [hb] at m1;cases m1
   have J:=zkU (P:=P) (w:=w) (ty:=o.type) ht X h2 l.1 aQ aO aB (c:=c) b.1 U q (by omega) M hb;obtain ⟨D1,D2⟩:=drawn K 1
   obtain ⟨g',q3,Z,q5⟩:=zGt (e:=e) (c:=grownCap w (xs.length + ys.length) c0 e) (arr:=us.toArray ++ news.toArray ++ Builtin.zeroCells z.cells (grownCap w (xs.length + ys.length) c0 e - (xs.length + ys.length))) D2 f I (l.mono D1.keeps) (b.mono D1.keeps) (by omega) aG
    ⟨(Builtin.zeroCells z.cells (grownCap w (xs.length + ys.length) c0 e - (xs.length + ys.length))).toList,by simp⟩ (by
      simp only [yO,yM,size_zeroCells,aM,l.1,b.1,← yq]
      congr 1
      omega) (by omega)
   refine zc2 (r1:=r.setOb D (.tok i.size (fr.set k (xs.length + ys.length)))) F hd (D1.trans q3) Z L.set rfl rfl (hexec ?_) (by simp only [zh]; exact q5) kk;rw [e0,ex];exact J
 ·cases h
theorem zHK (R0 : Rel g w r.st) (L : Low r.base r.lim r.st) (F : Fr κ loc nt g w r a) {t e : TypeId} {s x : Operand} {sz : Nat} {i : TypeInfo} {zs : List Value} {ct : Go.Call}
  (ho : o.op = .call ct) (O : ct.callee = .builtin .append) (y : ct.args = #[s,x]) (S : ct.argTypes = #[t,t])
  (hd : okD κ nt o.dst d = true) (ht : P.underlying t = some (.slice e)) (hi : P.info? e = some i) (hb : i.bytes ≤ 32768) (hs : i.size = sz) (h0 : 0 < sz) (hz : zeroOf P e = some zs) (aK : zs.length = sz)
  {id m n : Nat} {ys : List (List Fz)} (Z : zh g w r.st (.one (.own id m 0 n)) (a.eval s)) {vx : V} (aI : zh g w r.st vx (a.eval x)) (aH : elems r.st vx = some ys) (aG : zt9 sz ys = true)
  {r1 : R} (h : (r.st[id]?).bind (zvZ r d sz id m n ys) = some r1) (kk : zsl κ (zbE o.dst d :: loc) nt g w r r1 (a.put o.dst) next) : o.wp P a w next Q:=by
 subst hs;rw [yc] at h;obtain ⟨ob,D,h⟩:=h;unfold zvZ at h;split at h
 ·rename_i K
  obtain ⟨B,N,aF⟩:=K;injection h with h;subst h;obtain ⟨es,rfl⟩:=zmH B;obtain ⟨iz,z,h1,h2,h3⟩:=zdo hz;rw [hi] at h1;injection h1 with h1;subst h1;subst h3;have aP : z.cells.size = i.size:=by simpa using aK
  have p:=zh4 Z D;obtain ⟨b0,c0,e0,U,E,I⟩:=p;obtain ⟨a',c,news,ex,b,aB,l⟩:=zj2 R0 aI aH aG;have H:=zyl h0 b
  have hexec : ∀ {v' : Value} {w' : World},(Builtin.append_ #[t,t] o.type #[a.eval s,a.eval x]).run P w = .ok v' w' → (execOp a.eval o).run P w = .ok (.value v') w':=fun {v' w'} hr => by
   unfold execOp;simp only [ho,resolve,O,y,S,invoke,builtin,Sem.run_bind,Sem.run_pure,Result.andThen_ok,yw,yt,yF,hr]
  have G:=zot (σ:=r.st) b;have W : (Ob.cells m i.size es).grow n (ys.map fun e => e.map C.f) = .cells (m + 1) i.size (es.take n ++ ys.map fun e => e.map C.f):=rfl;rw [W] at kk;have M : ∀ aD,Low r.base r.lim (r.setOb id aD).st:=fun aD => L.set
  by_cases A : n + ys.length ≤ c0
  ·have k : es ≠ []:=fun h => by
    have:=E (by rw [h]; rfl);omega
   obtain ⟨arr,ty,q0,q1,q2,q3,q4,q5⟩:=zE8 R0 D k ⟨b0,c0,rfl,U,E,I⟩ (by simpa using b.1) G (by simpa using A) (by simpa using N);subst q0;rw [yC] at q5;refine zc2 (r1:=r.setOb id (.cells (m + 1) i.size (es.take n ++ ys.map fun e : List Fz => e.map C.f))) F hd q3 q4 (M _) rfl rfl (hexec ?_) (by simp only [zh]; exact q5) kk;rw [e0,ex];have:=zkQ (P:=P) (w:=w) (ty:=o.type) (off:=0) (sLen:=n) (sCap:=c0) (c:=c) ht hi q1 b.1 aB l H A (by simpa using q2);simpa using this
  ·have aN:=grownCap_ge w (n + ys.length) c0 e
   obtain ⟨us,aA,aE,X,aQ⟩ : ∃ us,us.length = n * i.size ∧ At w b0 us ∧ zeg g w r.st us.toArray i.size (es.take n) ∧ (b0 = none → c0 = 0):=by
    by_cases k : es = []
    ·have h3:=E (by rw [k]; rfl)
     have h4 : n = 0:=(by omega);subst h4;exact ⟨[],by simp,fun ad _ j v h => by simp at h,fun i e h => by simp at h,fun _ => h3⟩
    ·obtain ⟨f1,f2,arr,ty,f3,f4⟩:=I fun h => k (ya h)
     obtain ⟨_,_,aJ,aT,m1,m2,m3⟩:=R0.ob id _ D k;rw [m1] at f3;injection f3 with f3;injection f3 with f3 _;subst f3;have aR : n * i.size ≤ es.length * i.size:=yj _ (by omega);refine ⟨aJ.toList.take (n * i.size),by rw [yv,yk]; omega,fun ad J j v Y => ?_,fun q e hq => ?_,fun hb => ?_⟩
     ·rw [ye] at Y
      split at Y
      ·have K : c0 ≠ 0:=fun h => by
        have h4 : n = 0:=(by omega);subst h4;omega
       rw [f2 K] at J;injection J with J;subst J;rw [za6,zju m1];rw [yh] at Y;simpa using Y
      ·cases Y
     ·rw [ye] at hq
      split at hq
      ·refine ⟨(m3 q e hq).1,fun j c K => ?_⟩
       obtain ⟨u,k1,k2,k3⟩:=(m3 q e hq).2 j c K;have Y : j < i.size:=(by have:=zb K; have:=(m3 q e hq).1; omega);refine ⟨u,?_,k2,k3⟩;rw [List.getElem?_toArray,ye,if_pos (inside (by assumption) Y),yh];exact k1
      ·cases hq
     ·rcases yn c0 with h5 | h5
      ·exact h5
      ·rw [f2 (by omega)] at hb; cases hb
   have aL : n ≤ es.length:=by
    by_cases k : es = []
    ·have:=E (by rw [k]; rfl); omega
    ·have:=(I fun h => k (ya h)).1; omega
   have aC:=zkU (P:=P) (w:=w) (ty:=o.type) ht hi h2 aA aE aQ U (c:=c) b.1 aB l (by omega) aF hb;obtain ⟨D1,D2⟩:=drawn R0 1
   obtain ⟨g',q3,q4,q5⟩:=zGm (e:=e) (c:=grownCap w (n + ys.length) c0 e) (arr:=us.toArray ++ news.toArray ++ Builtin.zeroCells z.cells (grownCap w (n + ys.length) c0 e - (n + ys.length))) D2 D aL aA (D1.zeg X) (by simpa using b.1) (D1.zeg G) (by simpa using aN) (by simpa using N)
    ⟨(Builtin.zeroCells z.cells (grownCap w (n + ys.length) c0 e - (n + ys.length))).toList,by simp⟩ (by
      simp only [yO,yM,size_zeroCells,aP,aA,b.1,← yq]
      congr 1
      omega)
   rw [yC] at q5;refine zc2 (r1:=r.setOb id (.cells (m + 1) i.size (es.take n ++ ys.map fun e : List Fz => e.map C.f))) F hd (D1.trans q3) q4 (M _) rfl rfl (hexec ?_) (by simp only [zh]; exact q5) kk;rw [e0,ex];exact aC
 ·split at h
  ·rename_i K
   obtain ⟨B,aS⟩:=K;injection h with h;subst h;have aM : ys = []:=ya (by omega);have aO : n = 0:=(by omega);subst aM aO;obtain ⟨es,rfl⟩:=zmH B;have p:=zh4 Z D;obtain ⟨b0,c0,e0,U,E,I⟩:=p;obtain ⟨a',c,news,ex,b,aB,l⟩:=zj2 R0 aI aH aG
   have hexec : ∀ {v' : Value} {w' : World},(Builtin.append_ #[t,t] o.type #[a.eval s,a.eval x]).run P w = .ok v' w' → (execOp a.eval o).run P w = .ok (.value v') w':=fun {v' w'} hr => by
    unfold execOp;simp only [ho,resolve,O,y,S,invoke,builtin,Sem.run_bind,Sem.run_pure,Result.andThen_ok,yw,yt,yF,hr]
   refine zov R0 L F hd (hexec (v':=.slice b0 0 c0) ?_) ?_ kk
   ·rw [e0,ex]
    exact zk7 ht hi
   ·rw [← e0]
    exact Z
  ·cases h
theorem zx9 {σ : zd} (o : Ob) {v : V} {ys : List (List Fz)} (h : elems σ v = some ys) : elems (σ ++ [o]) v = some ys:=by
 unfold elems at h ⊢;split at h
 ·rw [yc] at h
  obtain ⟨d,b,c⟩:=h;have a:=zb b;simp only [yb a,b,Option.bind_some];exact c
 ·exact h
 ·exact h
 ·cases h
theorem zEa (D : Rel g w r.st) (L : Low r.base r.lim r.st) (F : Fr κ loc nt g w r a) {t e : TypeId} {s x : Operand} {sz : Nat} {i : TypeInfo} {M : List Value} {ct : Go.Call}
  (z : o.op = .call ct) (c : ct.callee = .builtin .append) (b : ct.args = #[s,x]) (f : ct.argTypes = #[t,t])
  (hd : okD κ nt o.dst d = true) (I : P.underlying t = some (.slice e)) (B : P.info? e = some i) (v : i.bytes ≤ 32768) (J : i.size = sz) (y : 0 < sz) (G : zeroOf P e = some M) (m : M.length = sz)
  {vs K : V} (p : zh g w r.st vs (a.eval s)) (q : zh g w r.st K (a.eval x))
  {r1 : R} (h : ((elems r.st K).bind fun ys => if zt9 sz ys then zHs r d sz ys vs else none) = some r1) (C : zsl κ (zbE o.dst d :: loc) nt g w r r1 (a.put o.dst) next) : o.wp P a w next Q:=by
 rw [yc] at h;obtain ⟨ys,l,h⟩:=h;split at h
 ·rename_i j
  unfold zHs at h;split at h
  ·exact zCE D L F z c b f hd I B v J y G m p q l j h C
  ·exact zHK D L F z c b f hd I B v J y G m p q l j h C
  ·split at h
   ·rename_i Y
    obtain ⟨hu,_⟩:=zaf p
    obtain ⟨H,O⟩:=zuv D sz [0] (fun _ => .slice none 0 0) (fun k n E => ⟨by
     cases k with
     | zero => simp at E; exact E.symm
     | succ k => simp at E,none,rfl⟩)
    have A : zh (g.nils r.st.length fun _ => .slice none 0 0) w (r.alloc (.tok sz [0])).st (.one (.ap r.st.length 0 [])) (a.eval s):=by
     rw [hu];simp only [zh];exact zCZ (sz:=sz) [0] (by simp) rfl
    refine zCE (r:=r.alloc (.tok sz [0])) (r1:=r1) O (L.append _) (F.ext H rfl rfl) z c b f hd I B v J y G m A (H.zh _ _ q) (zx9 _ l) j ?_ fun S W u U N X Z => C S W u (H.trans U) N X Z;rw [← h];simp [R.alloc,zpK,Ob.front,Ob.setFront,R.setOb,Y]
   ·cases h
  ·cases h
 ·cases h
theorem zGZ {σ : zd} (R : Rel g w σ) {id z sz lo : Nat} {es : List (List C)} {ys : List (List Fz)} {news : List Value} (y : σ[id]? = some (.cells z sz es)) (O : es ≠ []) (A : Lay w g.N sz ys news) (h1 : ∀ v ∈ news,v.oneCell' = true) (h0 : 0 < sz) (hle : lo + ys.length ≤ es.length) :
  ∃ arr t,w.heap[g.ρ id]? = some (.cells arr t (0,0)) ∧ lo * sz + news.length ≤ arr.size ∧
    Ext g w σ g (w.setRow (g.ρ id) (zcD arr (lo * sz) news)) (σ.set id (.cells z sz (es.take lo ++ (ys.map (fun e => e.map C.f) ++ es.drop (lo + ys.length))))) ∧
    Rel g (w.setRow (g.ρ id) (zcD arr (lo * sz) news)) (σ.set id (.cells z sz (es.take lo ++ (ys.map (fun e => e.map C.f) ++ es.drop (lo + ys.length))))):=by
 obtain ⟨D,V,arr,t,J,Q,r⟩:=R.ob id _ y O;have aA : news.length = ys.length * sz:=A.1
 have l : lo * sz + news.length ≤ arr.size:=by
  have : (lo + ys.length) * sz ≤ es.length * sz:=yj _ hle;rw [yq] at this;omega
 refine ⟨arr,t,J,l,?_⟩;have B:=zot (σ:=σ) A;have X : g.ρ id < w.heap.size:=(Array.getElem?_eq_some_iff.1 J).1
 have s : (es.take lo ++ (ys.map (fun e => e.map C.f) ++ es.drop (lo + ys.length))).length = es.length:=by
  simp;omega
 refine replace (g':=g) R y (fun b => b = g.ρ id) rfl rfl rfl (by simp) (fun b M ht => ⟨setRow_other w _ _ _ ht,rfl,fun _ h => h⟩)
  (fun b M => ⟨.inl (by rw [M]; exact D),rfl,fun o h => absurd (by rw [M] at h; exact h) (V o)⟩) (fun _ _ _ h => h) (fun _ _ => rfl) (fun _ _ _ => rfl) (fun b o h => by simpa using R.nb b o h) ?_ ?_ ?_ (fun _ _ h => by cases h) ?_
 ·intro W aB Y K
  refine .inl ⟨?_,rfl,fun _ U t0 p => ?_⟩
  ·rw [zG y] at K
   injection K with K;rw [zG (zI y),← K,s]
  ·rw [J] at p
   injection p with p;injection p with p hq1;subst p;subst hq1;exact ⟨_,setRow_heap w _ _ _ _ _ J,zga l⟩
 ·intro es' h; cases h
 ·intro k n h; simp [zpd,y,Ob.fr] at h
 ·intro H S
  refine ⟨D,V,_,t,setRow_heap w _ _ _ _ _ J,by rw [zga l,s]; exact Q,fun i x m => ?_⟩
  have I : ∀ i x,es[i]? = some x → (i < lo ∨ lo + ys.length ≤ i) → x.length = sz ∧ ∀ j c,x[j]? = some c → ∃ u,(zcD arr (lo * sz) news)[i * sz + j]? = some u ∧ zK g (w.setRow (g.ρ id) (zcD arr (lo * sz) news)) (σ.set id (.cells z sz (es.take lo ++ (ys.map (fun e => e.map C.f) ++ es.drop (lo + ys.length))))) c u ∧ u.oneCell' = true:=fun i x m E => by
   refine ⟨(r i x m).1,fun j c G => ?_⟩;obtain ⟨u,a,b,d⟩:=(r i x m).2 j c G;have P : j < sz:=(by have:=zb G; have:=(r i x m).1; omega);refine ⟨u,?_,H.zK c u b,d⟩;rw [zgw l];rcases E with E | E
   ·have:=inside (q:=j) E P
    rw [if_pos (by omega)];exact a
   ·have h2 : (lo + ys.length) * sz ≤ i * sz:=yj _ E
    rw [yq] at h2;rw [if_neg (by omega),if_neg (by omega)];exact a
  rw [yD] at m
  by_cases c1 : i < lo
  ·rw [if_pos (by simp; omega),ye,if_pos c1] at m
   exact I i x m (.inl c1)
  ·rw [if_neg (by simp; omega),yD] at m
   have L : (es.take lo).length = lo:=(by simp; omega);rw [L] at m
   by_cases c2 : i - lo < ys.length
   ·rw [if_pos (by simpa using c2)] at m
    obtain ⟨Z,k2⟩:=B (i - lo) x m;refine ⟨Z,fun j c G => ?_⟩;obtain ⟨u,a,b,d⟩:=k2 j c G;have P : j < sz:=(by have:=zb G; omega);refine ⟨u,?_,H.zK c u b,d⟩;rw [zgw l];have e1 : i * sz = lo * sz + (i - lo) * sz:=(by rw [← yq]; congr 1; omega);have e2:=inside (q:=j) c2 P;rw [if_neg (by omega),if_pos (by omega),show i * sz + j - lo * sz = (i - lo) * sz + j from by omega];simpa using a
   ·rw [if_neg (by simpa using c2),yp] at m
    simp only [yC] at m;rw [show lo + ys.length + (i - lo - ys.length) = i from by omega] at m;exact I i x m (.inr (by omega))
theorem zG1 {N : zhv} {sz k : Nat} {ys : List (List Fz)} {news : List Value} (h : Lay w N sz ys news) (n : k ≤ ys.length) : Lay w N sz (ys.take k) (news.take (k * sz)):=by
 obtain ⟨r,m,p⟩:=h;have g : k * sz ≤ ys.length * sz:=yj _ n;refine ⟨by rw [yv,yv,r,yP g,yP n],zf0 fun e he => zgq m e (yu he),fun i e d j x o => ?_⟩;rw [ye] at d;split at d
 ·rename_i l
  obtain ⟨u,a,b,c⟩:=p i e d j x o;have f : j < sz:=by have:=zb o; have:=zcz m d; omega
  have:=inside (q:=j) l f;exact ⟨u,by rw [ye,if_pos this]; exact a,b,c⟩
 ·cases d
theorem zEJ (R0 : Rel g w r.st) (L : Low r.base r.lim r.st) (F : Fr κ loc nt g w r a) {t t' e : TypeId} {x y : Operand} {sz : Nat} {ct : Go.Call}
  (ho : o.op = .call ct) (E : ct.callee = .builtin .copy) (k : ct.args = #[x,y]) (G : ct.argTypes = #[t,t'])
  (hd : okD κ nt o.dst d = true) (ht : P.underlying t = some (.slice e)) (O : zj1 P e = some sz) (h0 : 0 < sz)
  {vx vy : V} (X : zh g w r.st vx (a.eval x)) (Z : zh g w r.st vy (a.eval y))
  {r1 : R} (h : ((elems r.st vy).bind fun ys => if zt9 sz ys then zKc r d sz ys vx else none) = some r1) (kk : zsl κ (zbE o.dst d :: loc) nt g w r r1 (a.put o.dst) next) : o.wp P a w next Q:=by
 rw [yc] at h;obtain ⟨ys,U,h⟩:=h;split at h
 ·rename_i S
  unfold zKc at h;split at h
  ·rename_i id aB lo n
   split at h
   ·cases h
   ·rename_i aE
    rw [yc] at h;obtain ⟨ob,A,h⟩:=h
    cases ob with
    | tok _ _ => simp [zl4] at h
    | mp _ => simp [zl4] at h
    | cells ver' sz' es =>
      simp only [zl4] at h;split at h
      ·rename_i hc
       obtain ⟨rfl,rfl,hle⟩:=hc;injection h with h;subst h;have s:=zh4 X A;obtain ⟨b0,c0,e0,aD,aF,Y⟩:=s;obtain ⟨a',c,news,ex,i,aA,l⟩:=zj2 R0 Z U S;have b:=zyl h0 i
       have B : es ≠ []:=fun h => by
        rw [h,yQ] at hle;omega
       have p : es.length ≠ 0:=fun h => B (ya h);obtain ⟨aC,J,_⟩:=Y p;have hb:=J (by omega);subst hb;have hk : min ys.length n ≤ ys.length:=Nat.min_le_left _ _;have f:=zG1 i hk;have m : (ys.take (min ys.length n)).length = min ys.length n:=(by simp);obtain ⟨arr,ty,hh,u,H,R1⟩:=zGZ (lo:=lo) R0 A B f (fun v N => b v (yu N)) h0 (by rw [m]; exact hle);rw [m] at H R1
       obtain ⟨ad,rfl⟩ : ∃ ad,a' = some ad:=by
        cases a' with
        | none => have:=l rfl; omega
        | some ad => exact ⟨ad,rfl⟩
       have M : (news.take (min ys.length n * sz')).length = min ys.length n * sz':=by rw [f.1,m]
       have q : (loadCells ad (min ys.length n * sz')).run P w = .ok (news.take (min ys.length n * sz')).toArray w:=by
        have:=run_loadCells_list (P:=P) w ad (news.take (min ys.length n * sz')) (fun j v I => by
         rw [ye] at I;split at I
         ·exact aA ad rfl j v I
         ·cases I)
        rwa [M] at this
       have D:=run_storeCells_at P (g.ρ id) (lo * sz') ty (news.take (min ys.length n * sz')) 0 arr w hh (by simpa using u) (fun v N => b v (yu N));simp only [yJ] at D
       have z : (execOp a.eval o).run P w = .ok (.value (goInt (min ys.length n : Nat))) (w.setRow (g.ρ id) (zcD arr (lo * sz') (news.take (min ys.length n * sz')))):=by
        unfold zj1 at O
        cases W : P.info? e with
        | none => simp [W] at O
        | some inf =>
          have K : inf.size = sz':=(by simpa [W] using O);have C : Nat.min ys.length n = min ys.length n:=rfl;unfold execOp;simp only [ho,resolve,E,k,G,invoke,builtin,Sem.run_bind,Sem.run_pure,Result.andThen_ok,yw,yt,yF,e0,ex];simp [Builtin.copy_,run_underlying ht,Builtin.lenOf,Builtin.firstCells,sizeOf,typeInfo,W,K,C,q,D,zcD]
       refine zc2 (r1:=r.setOb id _) F hd H R1 L.set rfl rfl z ?_ kk;exact zak rfl
      ·cases h
  ·cases h
 ·cases h
end
end Go.A

/- A part of the proof of SchedDepth. Conditions: none. -/
import Derived.Test.YtmkncmffaaninaaGreatDAD
import Derived.Laws.MakeOwn
set_option linter.unusedVariables false
set_option linter.unusedSimpArgs false
set_option linter.unusedSectionVars false
open List renaming getElem?_append_left → ya,mem_of_getElem? → yc,append_assoc → yj,mem_iff_getElem? → yl,getElem?_set → ym,getElem?_map → yn,all_eq_true → yo,replicate → yr,map_cons → yu
open Option renaming map_eq_some_iff → yb,bind_eq_some_iff → yh
open Nat renaming le_refl → yd,zero_add → yt
open Array renaming getElem?_setIfInBounds → ye,getElem?_toList → yf,length_toList → yg,getElem?_eq_getElem → yi,range → yq
open Bool renaming and_eq_true → yk,or_eq_true → yp
namespace Go.A
def zeroOf (P : Program) (t : TypeId) : Option (List Value):=((P.info? t).bind (·.zero)).map fun z => z.cells.toList
def zhc (zs : List Value) : List (Nat × Nat) → Bool
 | [] => true
 | j :: js => (match zs[j.1]? with
   | some (.slice none 0 0) => true
   | _ => false) && zhc zs js
def G.nils (g : G) (t : Nat) (f : Nat → Value) : G:={ g with tv:=fun t' k => if t' = t then f k else g.tv t' k }
section
variable {g : G} {w : World} {σ : zd}
theorem zvy (R : Rel g w σ) (ob : Ob) (f : Nat → Value) (hob : ∀ {σ' : zd},Ext g w σ (g.nils σ.length f) w σ' → zAt (g.nils σ.length f) w σ' σ.length ob) :
  Ext g w σ (g.nils σ.length f) w (σ ++ [ob]) ∧ Rel (g.nils σ.length f) w (σ ++ [ob]):=by
 have htv : ∀ t k,t < σ.length → (g.nils σ.length f).tv t k = g.tv t k:=fun t k h => by
  show (if t = σ.length then f k else g.tv t k) = _
  rw [if_neg (by omega)]
 have H : Ext g w σ (g.nils σ.length f) w (σ ++ [ob]):={
  os:=rfl
  tape:=rfl
  output:=rfl
  size:=yd _
  keeps:=fun _ _ h => ⟨h,rfl⟩
  len:=by simp
  shape:=fun id ver sz len h => by
   obtain ⟨es,h1,_⟩:=zaR h
   exact .inl ⟨by unfold shapeOf; rw [ya (zb h1)]; exact h,rfl,fun _ arr t ha => ⟨arr,ha,rfl⟩⟩
  map:=fun id es h => ⟨rfl,es,by rw [ya (zb h)]; exact h⟩
  tok:=fun t k n h => by
   obtain ⟨sz,fr,h1,h2⟩:=zcX h
   exact ⟨n,zdD (by rw [ya (zb h1)]; exact h1) h2,yd _,fun _ => htv t k (zb h1)⟩
  tsz:=fun t sz h => by
   obtain ⟨fr,h1⟩:=zez h
   exact zce (fr:=fr) (by rw [ya (zb h1)]; exact h1)
  ow:=fun _ _ => rfl
  new:=fun _ _ h _ _ => h
  frame:=fun _ _ _ => rfl }
 refine ⟨H,⟨R.nb,fun id o h => ?_⟩⟩
 by_cases hlt : id < σ.length
 ·rw [ya hlt] at h
  exact zcV H rfl (fun k => htv id k hlt) (fun _ _ _ => ⟨rfl,rfl,fun _ h => h⟩) (R.ob id o h)
 ·have hid : id = σ.length:=by
   have:=zb h
   simp at this
   omega
  subst hid
  simp at h
  subst h
  exact hob H
theorem G.nils_tv (g : G) (t k : Nat) (f : Nat → Value) : (g.nils t f).tv t k = f k:=by
 show (if t = t then f k else _) = _
 rw [if_pos rfl]
theorem zrs (R : Rel g w σ) (sz : Nat) (fr : List Nat) (f : Nat → Value) (hz : ∀ k n,fr[k]? = some n → n = 0 ∧ ∃ a,f k = .slice a 0 0) :
  Ext g w σ (g.nils σ.length f) w (σ ++ [.tok sz fr]) ∧ Rel (g.nils σ.length f) w (σ ++ [.tok sz fr]) :=
 zvy R _ f fun _ => fun k n hn => by
  obtain ⟨h0,a,ha⟩:=hz k n hn
  exact .inl ⟨h0,a,by rw [G.nils_tv]; exact ha⟩
theorem ziK : ∀ fresh : List (Nat × Nat),(tokens fresh).length = fresh.length
 | [] => rfl
 | _ :: js => by simp [tokens,ziK js]
theorem ziF : ∀ (fresh : List (Nat × Nat)) (t : Nat) (cs : List C),(zfZ t fresh cs).length = cs.length
 | [],_,_ => rfl
 | _ :: js,t,cs => by rw [zfZ,ziF js]; simp
theorem zl3 {cs : List C} {us : List Value} {j : Nat} {c : C} {u : Value} (h : zv g w σ cs us) (hu : us[j]? = some u) (hc : zw g w σ c u) : zv g w σ (cs.set j c) us:=by
 have hl:=zC h
 refine zj0 (by simpa using hl) fun i x v hx hv => ?_
 rw [ym] at hx
 by_cases e : j = i
 ·subst e
  have hlt : j < cs.length:=by rw [← hl]; exact zb hu
  simp [hlt] at hx
  subst hx
  rw [hu] at hv
  injection hv with hv
  rw [← hv]
  exact hc
 ·rw [if_neg e] at hx
  obtain ⟨v',k1,k2⟩:=zdj h hx
  rw [k1] at hv
  injection hv with hv
  rw [← hv]
  exact k2
theorem zq8 {N : zf1} : rep w N (.sl []) (.slice none 0 0):=by
 rw [rep]
 exact ⟨none,0,0,rfl,yd _,by simp only [zbO],.inl rfl⟩
theorem zn7 {σ : zd} (R : Rel g w σ) (sz : Nat) : Ext g w σ (g.nils σ.length fun _ => undef) w (σ ++ [.cells 0 sz []]) ∧ Rel (g.nils σ.length fun _ => undef) w (σ ++ [.cells 0 sz []]) :=
 zvy R _ _ fun _ h => absurd rfl h
theorem zzC {σ : zd} {sz n q : Nat} (hq : q < n) (g : G) : zw g w (σ ++ yr n (.cells 0 sz [])) (.own (σ.length + q) 0 0 0) (.slice none 0 0):=by
 rw [zw]
 have hs : shapeOf (σ ++ yr n (.cells 0 sz [])) (σ.length + q) = some (0,sz,0):=by
  unfold shapeOf
  rw [List.getElem?_append_right (by omega),show σ.length + q - σ.length = q by omega,List.getElem?_replicate,if_pos hq]
  rfl
 exact ⟨0,sz,0,hs,yd _,fun _ => ⟨none,0,rfl,yd _,fun _ => rfl,fun h => absurd rfl h⟩,_,_,rfl⟩
theorem zrW : ∀ (fresh : List (Nat × Nat)) {g : G} {σ : zd} {cs : List C} {zs : List Value},Rel g w σ → zhc zs fresh = true → zv g w σ cs zs →
  ∃ g',Ext g w σ g' w (σ ++ tokens fresh) ∧ Rel g' w (σ ++ tokens fresh) ∧ zv g' w (σ ++ tokens fresh) (zfZ σ.length fresh cs) zs
 | [],g,σ,cs,zs,R,_,h => ⟨g,by simpa [tokens] using Ext.refl g w σ,by simpa [tokens] using R,by simpa [tokens,zfZ] using h⟩
 | j :: js,g,σ,cs,zs,R,hf,h => by
   simp only [zhc,yk] at hf
   obtain ⟨hj,hjs⟩:=hf
   have hz : zs[j.1]? = some (.slice none 0 0):=by
    split at hj
    ·assumption
    ·cases hj
   by_cases c : 4096 ≤ j.2
   ·obtain ⟨H1,R1⟩:=zn7 R (j.2 - 4096)
    have hc : zw (g.nils σ.length fun _ => undef) w (σ ++ [.cells 0 (j.2 - 4096) []]) (zDQ σ.length j.2) (.slice none 0 0):=by
     rw [zDQ,if_pos c]
     have:=zzC (σ:=σ) (sz:=j.2 - 4096) (n:=1) (q:=0) (w:=w) (by omega) (g.nils σ.length fun _ => undef)
     simpa using this
    obtain ⟨g',H2,R2,h2⟩:=zrW js R1 hjs (zl3 (H1.zv _ _ h) hz hc)
    refine ⟨g',?_,?_,?_⟩
    ·have:=H1.trans H2
     simpa [tokens,zCo,if_pos c] using this
    ·simpa [tokens,zCo,if_pos c] using R2
    ·simpa [tokens,zCo,if_pos c,zfZ] using h2
   ·obtain ⟨H1,R1⟩:=zrs R j.2 [0] (fun _ => .slice none 0 0) (fun k n hn => ⟨by
     cases k with
     | zero => simp at hn; exact hn.symm
     | succ k => simp at hn,none,rfl⟩)
    have hc : zw (g.nils σ.length fun _ => .slice none 0 0) w (σ ++ [.tok j.2 [0]]) (zDQ σ.length j.2) (.slice none 0 0):=by
     rw [zDQ,if_neg c,zw]
     refine ⟨zq8,0,zdD (sz:=j.2) (fr:=[0]) (by simp) (by simp),yd _,fun _ => ?_,j.2,zce (fr:=[0]) (by simp),by simp only [zbO]⟩
     show _ = if σ.length = σ.length then _ else _
     rw [if_pos rfl]
    obtain ⟨g',H2,R2,h2⟩:=zrW js R1 hjs (zl3 (H1.zv _ _ h) hz hc)
    refine ⟨g',?_,?_,?_⟩
    ·have:=H1.trans H2
     simpa [tokens,zCo,if_neg c] using this
    ·simpa [tokens,zCo,if_neg c] using R2
    ·simpa [tokens,zCo,if_neg c,zfZ] using h2
theorem zgH (R : Rel g w σ) {sz : Nat} {es : List (List C)} {us : List Value} (t : TypeId) (hl : us.length = es.length * sz) (hrow : zco g w σ us.toArray sz es) :
  Ext g w σ (g.own σ.length w.heap.size) (w.alloc (.cells us.toArray t)) (σ ++ [.cells 0 sz es]) ∧ Rel (g.own σ.length w.heap.size) (w.alloc (.cells us.toArray t)) (σ ++ [.cells 0 sz es]) :=
 zsp R (.cells 0 sz es) (.cells us.toArray t) fun H h1 h2 h3 _ => ⟨by rw [h1]; exact h2,by rw [h1]; exact h3,us.toArray,t,by rw [h1]; exact zbb w _,by simp [hl],H.zco hrow⟩
theorem zkn (σ : zd) (o : Ob) : (σ ++ [o])[σ.length]? = some o:=by simp
theorem zsW {sz : Nat} {es : List (List C)} (o : Obj) : zf (g.own σ.length w.heap.size) (w.alloc o) (σ ++ [.cells 0 sz es]) (.one (.ptr σ.length 0 0 0)) (.pointer (some ⟨w.heap.size,0,none⟩)):=by
 simp only [zf,zw]
 exact ⟨0,sz,es.length,zn (zkn σ _),yd _,fun _ => by simp [G.own],_,rfl⟩
theorem zmp {sz : Nat} {es : List (List C)} {us : List Value} (t : TypeId) (hl : us.length = es.length * sz) :
  zf (g.own σ.length w.heap.size) (w.alloc (.cells us.toArray t)) (σ ++ [.cells 0 sz es]) (.one (.own σ.length 0 0 es.length)) (.slice (some ⟨w.heap.size,0,none⟩) es.length es.length):=by
 simp only [zf,zw]
 refine ⟨0,sz,es.length,zn (zkn σ _),yd _,fun _ => ⟨_,_,rfl,yd _,fun h => h,fun _ => ⟨by omega,fun _ => by simp [G.own],us.toArray,t,?_,by simp [hl]⟩⟩,_,_,rfl⟩
 simpa [G.own] using zbb w (.cells us.toArray t)
theorem zjY {cs : List C} {us : List Value} (h : zv g w σ cs us) (h1 : ∀ u ∈ us,u.oneCell' = true) : zco g w σ us.toArray cs.length [cs]:=fun i e hi => by
 cases i with
 | succ i => simp at hi
 | zero =>
   simp at hi
   subst hi
   refine ⟨rfl,fun j c hc => ?_⟩
   obtain ⟨u,k1,k2⟩:=zdj h hc
   exact ⟨u,by simpa using k1,k2,h1 u (yc k1)⟩
theorem zzy (R : Rel g w σ) {sz : Nat} {xs : List (List Fz)} {us : List Value} (t : TypeId) (hx : Lay w g.N sz xs us) :
  ∃ g',Ext g w σ g' (w.alloc (.cells us.toArray t)) (σ ++ [.tok sz [xs.length]]) ∧ Rel g' (w.alloc (.cells us.toArray t)) (σ ++ [.tok sz [xs.length]]) ∧
    zf g' (w.alloc (.cells us.toArray t)) (σ ++ [.tok sz [xs.length]]) (.one (.ap σ.length 0 xs)) (.slice (some ⟨w.heap.size,0,none⟩) xs.length xs.length):=by
 let g' : G:={ g with tv:=fun t' k => if t' = σ.length then .slice (some ⟨w.heap.size,0,none⟩) xs.length xs.length else g.tv t' k,ow:=zxD g.ow w.heap.size (.tk σ.length 0),N:=fun b o => g.N b o ∨ (b = w.heap.size ∧ o < xs.length * sz) }
 have how : ∀ b,b < w.heap.size → g'.ow b = g.ow b:=fun b hb => zaF g.ow (k:=w.heap.size) (i:=b) _ (by omega)
 have hN : ∀ b o,b < w.heap.size → (g'.N b o ↔ g.N b o):=fun b o hb => ⟨fun h => h.elim id fun h => by omega,.inl⟩
 have htv : ∀ t' k,t' < σ.length → g'.tv t' k = g.tv t' k:=fun t' k h => by
  show (if t' = σ.length then _ else g.tv t' k) = _
  rw [if_neg (by omega)]
 have htv' : ∀ k,g'.tv σ.length k = .slice (some ⟨w.heap.size,0,none⟩) xs.length xs.length:=fun k => by
  show (if σ.length = σ.length then _ else _) = _
  rw [if_pos rfl]
 have H : Ext g w σ g' (w.alloc (.cells us.toArray t)) (σ ++ [.tok sz [xs.length]]) :=
  Ext.alloc R _ g' (fun _ _ => rfl) (fun t' k n h => htv t' k (by obtain ⟨_,_,h1,_⟩:=zcX h; exact zb h1)) how hN _
 have hat:=zbb w (.cells us.toArray t)
 refine ⟨g',H,⟨fun b o h => ?_,fun id o h => ?_⟩,?_⟩
 ·rw [size_alloc]
  rcases h with h | h
  ·have:=R.nb b o h; omega
  ·omega
 ·by_cases hlt : id < σ.length
  ·rw [ya hlt] at h
   exact zcV H rfl (fun k => htv id k hlt) (fun b hb _ => ⟨heap_alloc_old w _ hb,how b hb,fun o => (hN b o hb).1⟩) (R.ob id o h)
  ·have hid : id = σ.length:=by
    have:=zb h
    simp at this
    omega
   subst hid
   simp at h
   subst h
   intro k n hn
   cases k with
   | succ k => simp at hn
   | zero =>
     simp at hn
     subst hn
     rw [htv']
     rcases Nat.eq_zero_or_pos xs.length with h0 | h0
     ·exact .inl ⟨h0,_,by rw [h0]⟩
     ·refine .inr ⟨_,_,_,us.toArray,t,rfl,h0,yd _,zha _ _ _,hat,by simp [hx.1],fun o' ho' => ?_⟩
      rcases ho' with ho' | ho'
      ·exact absurd (R.nb _ _ ho') (Nat.lt_irrefl _)
      ·have:=ho'.2; omega
 ·simp only [zf,zw]
  refine ⟨zvI hx.2.1 (yd _) (zle hx H.keeps fun j v hj => ?_),xs.length,zdD (sz:=sz) (fr:=[xs.length]) (by simp) (by simp),yd _,fun _ => (htv' 0).symm,sz,zce (fr:=[xs.length]) (by simp),hx.2.1⟩
  have hlt:=zb hj
  rw [hx.1] at hlt
  refine ⟨.inr ⟨rfl,by omega⟩,?_⟩
  rw [yt,zgX hat]
  simpa using hj
theorem zvZ (R : Rel g w σ) {sz : Nat} {xs : List (List Fz)} {us : List Value} (t : TypeId) (hx : Lay w g.N sz xs us) :
  ∃ g',Ext g w σ g' (w.alloc (.cells us.toArray t)) σ ∧ Rel g' (w.alloc (.cells us.toArray t)) σ ∧
    zf g' (w.alloc (.cells us.toArray t)) σ (vsl xs) (.slice (some ⟨w.heap.size,0,none⟩) xs.length xs.length):=by
 obtain ⟨H,R1⟩:=zsO R (.cells us.toArray t)
 refine ⟨_,H,R1,?_⟩
 simp only [vsl,zf,zw]
 refine zvI hx.2.1 (yd _) (zle hx H.keeps fun j v hj => ⟨.inr rfl,?_⟩)
 rw [yt,zgX (zbb w _)]
 simpa using hj
end
end Go.A
namespace Go.A
section
variable {P : Program} {κ : List Tmp} {loc : List (Option Tmp)} {nt : Nat} {g : G} {w : World} {r r' : R} {a : Act} {o : Go.Oper} {d : D} {next : Act → World → Prop} {Q : Exit → Act → World → Prop}
theorem zdc {t : TypeId} {zs : List Value} (h : zeroOf P t = some zs) : ∃ i z,P.info? t = some i ∧ i.zero = some z ∧ z.cells.toList = zs:=by
 unfold zeroOf at h
 rw [yb] at h
 obtain ⟨z,h1,h2⟩:=h
 rw [yh] at h1
 obtain ⟨i,h1,h3⟩:=h1
 exact ⟨i,z,h1,h3,h2⟩
theorem zc1 {t : TypeId} {i : TypeInfo} {z : Value} (h1 : P.info? t = some i) (h2 : i.zero = some z) : (zeroValue t).run P w = .ok z w:=by simp [zeroValue,typeInfo,h1,h2]
theorem zB9 (R0 : Rel g w r.st) (L : Low r.base r.lim r.st) (F : Fr κ loc nt g w r a) {t : TypeId} {zs : List Value} {zero : List C} {fresh : List (Nat × Nat)} (ho : o.op = .alloc t) (hd : okD κ nt o.dst d = true) (hz : zeroOf P t = some zs) (hc : ze5 zs zero = true) (hf : zhc zs fresh = true)
  (k : znE κ (zaO o.dst d :: loc) nt g w r (aal r d zero fresh) (a.put o.dst) next) : o.wp P a w next Q:=by
 obtain ⟨i,z,h1,h2,h3⟩:=zdc hz
 obtain ⟨hz1,hz2⟩:=zax (g:=g) (w:=w) (σ:=r.st) hc
 obtain ⟨g1,H1,R1,hcr⟩:=zrW fresh R0 hf hz1
 have hul:=zC hcr
 rw [ziF] at hul
 obtain ⟨H2,R2⟩:=zgH (sz:=zero.length) (es:=[zfZ r.st.length fresh zero]) (us:=zs) R1 t (by simp [hul]) (by
  have:=zjY hcr hz2
  rwa [ziF] at this)
 have hst : (r.st ++ tokens fresh).length = r.st.length + fresh.length:=by simp [ziK]
 have e : aal r d zero fresh = (r.allocs (tokens fresh ++ [.cells 0 zero.length [zfZ r.st.length fresh zero]])).put d (.one (.ptr (r.st.length + fresh.length) 0 0 0)):=rfl
 rw [e] at k
 refine zaV (r1:=r.allocs (tokens fresh ++ [.cells 0 zero.length [zfZ r.st.length fresh zero]])) F hd (H1.trans (by simpa [R.allocs,yj] using H2)) (by simpa [R.allocs,yj] using R2) (L.append _) rfl rfl (u:=.pointer (some ⟨w.heap.size,0,none⟩)) ?_ ?_ k
 ·unfold execOp
  simp only [ho]
  have : z.cells = zs.toArray:=by rw [← h3]
  simp [Instr.alloc,zc1 (w:=w) h1 h2,newVar,newRow,this]
 ·have:=zsW (g:=g1) (w:=w) (σ:=r.st ++ tokens fresh) (sz:=zero.length) (es:=[zfZ r.st.length fresh zero]) (.cells zs.toArray t)
  rw [hst] at this
  simpa [R.allocs,yj,ziK] using this
theorem zyw (R0 : Rel g w r.st) (L : Low r.base r.lim r.st) (F : Fr κ loc nt g w r a) {t : TypeId} {x : Operand} {sz : Nat} (ho : o.op = .box t x) (hd : okD κ nt o.dst d = true) (h0 : 0 < sz)
  {vx : V} (hx : zf g w r.st vx (a.eval x)) (hl : vx.cells.length = sz) (hk : C.kns vx.cells = true)
  (k : znE κ (zaO o.dst d :: loc) nt g w r ((r.alloc (.cells 0 sz [vx.cells])).put d (.one (.ptr r.st.length 0 0 0))) (a.put o.dst) next) : o.wp P a w next Q:=by
 subst hl
 obtain ⟨k1,k2⟩:=zhZ hx hk h0
 obtain ⟨H2,R2⟩:=zgH (sz:=vx.cells.length) (es:=[vx.cells]) R0 t (by simp [zC k1]) (zjY k1 k2)
 refine zaV (r1:=r.alloc (.cells 0 vx.cells.length [vx.cells])) F hd H2 R2 (L.append _) rfl rfl (u:=.pointer (some ⟨w.heap.size,0,none⟩)) ?_ (zsW _) k
 unfold execOp
 simp [ho,Instr.box,newVar,newRow]
theorem zvs : ∀ (l : List Value) (k off : Nat) (cs : Array Value),off + k + l.length ≤ cs.size →
  ((l.zipIdx k).foldl (fun cs (cj : Value × Nat) => cs.setIfInBounds (off + cj.2) cj.1) cs).size = cs.size ∧
  ∀ q,((l.zipIdx k).foldl (fun cs (cj : Value × Nat) => cs.setIfInBounds (off + cj.2) cj.1) cs)[q]? = if q < off + k then cs[q]? else if q < off + k + l.length then l[q - (off + k)]? else cs[q]?
 | [],k,off,cs,_ => ⟨by simp,fun q => by
   simp only [List.zipIdx_nil,List.foldl_nil,List.length_nil,Nat.add_zero]
   split <;> rfl⟩
 | v :: l,k,off,cs,h => by
   simp only [List.length_cons] at h
   obtain ⟨h1,h2⟩:=zvs l (k + 1) off (cs.setIfInBounds (off + k) v) (by simp; omega)
   simp only [List.zipIdx_cons,List.foldl_cons]
   refine ⟨by rw [h1]; simp,fun q => ?_⟩
   rw [h2]
   by_cases c1 : q < off + k
   ·rw [if_pos (by omega),if_pos c1,ye,if_neg (by omega)]
   ·rw [if_neg c1]
    by_cases c2 : q = off + k
    ·subst c2
     rw [if_pos (by omega),if_pos (by simp),ye]
     simp
     omega
    ·rw [if_neg (by omega)]
     by_cases c3 : q < off + k + (l.length + 1)
     ·rw [if_pos (by omega),if_pos (by simpa using c3),show q - (off + k) = q - (off + (k + 1)) + 1 from by omega]
      simp
     ·rw [if_neg (by omega),if_neg (by simpa using c3),ye,if_neg (by omega)]
theorem zs2 (l cs : Array Value) (off : Nat) (h : off + l.size ≤ cs.size) :
  (l.zipIdx.foldl (fun cs (cj : Value × Nat) => cs.setIfInBounds (off + cj.2) cj.1) cs).size = cs.size ∧
  ∀ q,(l.zipIdx.foldl (fun cs (cj : Value × Nat) => cs.setIfInBounds (off + cj.2) cj.1) cs)[q]? = if q < off then cs[q]? else if q < off + l.size then l.toList[q - off]? else cs[q]?:=by
 have:=zvs l.toList 0 off cs (by simpa using h)
 rw [← Array.foldl_toList,Array.toList_zipIdx]
 simpa using this
theorem zw5 {σ : zd} {cs cs' e : List C} {us us' : List Value} {es : List Value} {off : Nat} (h : zv g w σ cs us) (he : zv g w σ e es) (ho : zDM cs off e = some cs') (hl : us'.length = us.length)
  (hget : ∀ q,us'[q]? = if q < off then us[q]? else if q < off + es.length then es[q - off]? else us[q]?) : zv g w σ cs' us':=by
 obtain ⟨o1,o2,o3⟩:=zpc ho
 have hel:=zC he
 refine zj0 (by rw [hl,o2]; exact zC h) fun j c u hc hu => ?_
 rw [o3] at hc
 rw [hget] at hu
 have sub : ∀ {l : List C} {m : List Value} {j' : Nat},zv g w σ l m → l[j']? = some c → m[j']? = some u → zw g w σ c u:=fun hr h1 h2 => by
  obtain ⟨u',k1,k2⟩:=zdj hr h1
  rw [k1] at h2
  injection h2 with h2
  rw [← h2]; exact k2
 by_cases c1 : j < off
 ·rw [if_pos c1] at hc hu; exact sub h hc hu
 ·rw [if_neg c1] at hc hu
  by_cases c2 : j < off + e.length
  ·rw [if_pos c2] at hc
   rw [if_pos (by omega)] at hu
   exact sub he hc hu
  ·rw [if_neg c2] at hc
   rw [if_neg (by omega)] at hu
   exact sub h hc hu
def zlu (κ : List Tmp) (loc : List (Option Tmp)) (place : Nat → Option (Nat × Nat)) : List (Nat × Operand) → List (Nat × Nat × X) → Bool
 | [],[] => true
 | (i,x) :: ps,(off,sz,y) :: qs => (place i == some (off,sz)) && decide (0 < sz) && okX κ loc x y && zlu κ loc place ps qs
 | _,_ => false
theorem zp8 {place : Nat → Option (Nat × Nat)} (F : Fr κ loc nt g w r a) : ∀ (ps : List (Nat × Operand)) (qs : List (Nat × Nat × X)) (cells : Array Value) (cs cs' : List C),zlu κ loc place ps qs = true → zv g w r.st cs cells.toList → (∀ v ∈ cells.toList,v.oneCell' = true) →
  zng r qs cs = some cs' → ∃ cells',Instr.fill place cells (ps.map fun p => (p.1,a.eval p.2)) = some cells' ∧ zv g w r.st cs' cells'.toList ∧ ∀ v ∈ cells'.toList,v.oneCell' = true
 | [],[],cells,cs,cs',_,h,h1,hf => by
   simp only [zng,Option.some.injEq] at hf
   subst hf
   exact ⟨cells,rfl,h,h1⟩
 | (i,x) :: ps,(off,sz,y) :: qs,cells,cs,cs',hp,h,h1,hf => by
   simp only [zlu,yk,beq_iff_eq,decide_eq_true_eq] at hp
   obtain ⟨⟨⟨hpl,hsz⟩,hx⟩,hps⟩:=hp
   simp only [zng] at hf
   split at hf
   ·rename_i hc
    rw [yh] at hf
    obtain ⟨cs1,ho,hf⟩:=hf
    obtain ⟨k1,k2⟩:=zhZ (F.get hx) hc.2 (by omega)
    have hcl:=zC k1
    simp only [yg] at hcl
    obtain ⟨o1,o2,_⟩:=zpc ho
    have hcs:=zC h
    simp only [yg] at hcs
    obtain ⟨f1,f2⟩:=zs2 (a.eval x).cells cells off (by omega)
    have hnew:=zw5 (us':=((a.eval x).cells.zipIdx.foldl (fun cs (cj : Value × Nat) => cs.setIfInBounds (off + cj.2) cj.1) cells).toList) h k1 ho (by simpa using f1) (fun q => by simpa using f2 q)
    obtain ⟨cells',g1,g2,g3⟩:=zp8 F ps qs _ cs1 cs' hps hnew (fun v hv => by
     obtain ⟨q,hq⟩:=yl.1 hv
     rw [yf,f2] at hq
     split at hq
     ·exact h1 v (yc (by rw [yf]; exact hq))
     ·split at hq
      ·exact k2 v (yc hq)
      ·exact h1 v (yc (by rw [yf]; exact hq))) hf
    refine ⟨cells',?_,g2,g3⟩
    simp only [yu,Instr.fill,hpl]
    rw [if_neg]
    ·exact g1
    ·simp only [yp,decide_eq_true_eq,not_or]
     constructor
     ·simp; omega
     ·omega
   ·cases hf
 | [],_ :: _,_,_,_,hp,_,_,_ => by simp [zlu] at hp
 | _ :: _,[],_,_,_,hp,_,_,_ => by simp [zlu] at hp
end
end Go.A
namespace Go.A
def zn1 (P : Program) (t : TypeId) : Option (Nat → Option (Nat × Nat)) :=
 match P.underlying t with
 | some (.array _ e) => (P.info? e).map fun ie i => some (i * ie.size,ie.size)
 | some (.struct fields) => (fields.toList.mapM (fun f => (P.info? f.type).map fun i => (f.offset,i.size))).map fun places i => places.toArray[i]?
 | _ => none
section
variable {P : Program} {κ : List Tmp} {loc : List (Option Tmp)} {nt : Nat} {g : G} {w : World} {r r' : R} {a : Act} {o : Go.Oper} {d : D} {next : Act → World → Prop} {Q : Exit → Act → World → Prop}
theorem zxx (r : R) (os : List Ob) (x : X) : (r.allocs os).get x = r.get x:=by cases x <;> rfl
theorem znk (r : R) (os : List Ob) : ∀ (qs : List (Nat × Nat × X)) (cs : List C),zng (r.allocs os) qs cs = zng r qs cs
 | [],_ => rfl
 | (off,sz,x) :: qs,cs => by
   simp only [zng,zxx]
   congr 1
   exact congrArg _ (funext fun c => znk r os qs c)
theorem zAJ {t : TypeId} {place : Nat → Option (Nat × Nat)} {zs : List Value} {ps : List (Nat × Value)} {cells : Array Value} (hz : zeroOf P t = some zs) (hp : zn1 P t = some place) (hf : Instr.fill place zs.toArray ps = some cells) : P.built t ps = some cells:=by
 obtain ⟨i,z,h1,h2,h3⟩:=zdc hz
 subst h3
 unfold zn1 at hp
 unfold Program.built
 split at hp
 ·rename_i n e hu
  rw [yb] at hp
  obtain ⟨ie,h4,rfl⟩:=hp
  simp only [h1,hu,h2,h4]
  simpa using hf
 ·rename_i fs hu
  rw [yb] at hp
  obtain ⟨pl,h4,rfl⟩:=hp
  simp only [h1,hu,h2,h4]
  simpa using hf
 ·cases hp
theorem zzo (R0 : Rel g w r.st) (L : Low r.base r.lim r.st) (F : Fr κ loc nt g w r a) {t : TypeId} {parts : Array (Nat × Operand)} {zs : List Value} {zero : List C} {fresh : List (Nat × Nat)} {place : Nat → Option (Nat × Nat)} {qs : List (Nat × Nat × X)}
  (ho : o.op = .build t parts) (hd : okD κ nt o.dst d = true) (hz : zeroOf P t = some zs) (hc : ze5 zs zero = true) (hf : zhc zs fresh = true) (hpl : zn1 P t = some place) (hp : zlu κ loc place parts.toList qs = true)
  {r1 : R} (h : (zng r qs (zfZ r.st.length fresh zero)).map (zDT r d fresh) = some r1) (k : znE κ (zaO o.dst d :: loc) nt g w r r1 (a.put o.dst) next) : o.wp P a w next Q:=by
 rw [yb] at h
 obtain ⟨cs',h,rfl⟩:=h
 obtain ⟨hz1,hz2⟩:=zax (g:=g) (w:=w) (σ:=r.st) hc
 obtain ⟨g1,H1,R1,hcr⟩:=zrW fresh R0 hf hz1
 have F1 : Fr κ loc nt g1 w (r.allocs (tokens fresh)) a:=F.ext H1 rfl rfl
 obtain ⟨cells,k1,k2,_⟩:=zp8 (place:=place) F1 parts.toList qs zs.toArray _ cs' hp (show zv g1 w (r.st ++ tokens fresh) _ zs from hcr) (by simpa using hz2) (by rw [znk]; exact h)
 have hb:=zAJ hz hpl k1
 refine zaV (r1:=r.allocs (tokens fresh)) F hd H1 R1 (L.append _) rfl rfl (u:=.agg cells) ?_ ?_ k
 ·unfold execOp
  have hb' : P.built t (parts.map fun (i,x) => (i,a.eval x)).toList = some cells:=by simpa using hb
  simp only [ho,Sem.run_bind,run_build w t _ cells hb',Result.andThen_ok,Sem.run_pure]
 ·simp only [zf]
  exact ⟨cells,rfl,k2⟩
theorem zjj {σ : zd} {zc : Array Value} {sz : Nat} {es : List (List C)} (hs : zc.size = sz) (h0 : 0 < sz) (h : ∀ e ∈ es,zv g w σ e zc.toList) (h1 : ∀ u ∈ zc.toList,u.oneCell' = true) : zco g w σ ((yq (es.length * sz)).map (zc[· % zc.size]!)) sz es:=fun i e hi => by
 have hcr:=h e (yc hi)
 have hl:=zC hcr
 simp only [yg,hs] at hl
 refine ⟨hl.symm,fun j c hc => ?_⟩
 obtain ⟨u,k1,k2⟩:=zdj hcr hc
 have hj : j < sz:=by have:=zb hc; omega
 refine ⟨u,?_,k2,h1 u (yc k1)⟩
 have hlt:=inside (zb hi) hj
 rw [Array.getElem?_map,yi (by simpa using hlt)]
 simp only [Array.getElem_range,Option.map_some]
 have hmod : (i * sz + j) % zc.size = j:=by rw [hs,Nat.mul_comm,Nat.mul_add_mod,Nat.mod_eq_of_lt hj]
 rw [hmod]
 rw [yf] at k1
 rw [getElem!_pos zc j (by omega)]
 rw [yi (by omega)] at k1
 exact k1
def ziB (κ : List Tmp) (loc : List (Option Tmp)) : List (Nat × Operand) → List (Nat × X) → Bool
 | [],[] => true
 | (i,x) :: ps,(j,y) :: qs => (i == j) && okX κ loc x y && ziB κ loc ps qs
 | _,_ => false
theorem zol (F : Fr κ loc nt g w r a) {sz : Nat} (h0 : 0 < sz) : ∀ (ps : List (Nat × Operand)) (qs : List (Nat × X)) (cells : Array Value) (es es' : List (List C)),ziB κ loc ps qs = true → cells.size = es.length * sz → zco g w r.st cells sz es →
  znY r sz qs es = some es' → ∃ cells',Instr.fill (fun i => some (i * sz,sz)) cells (ps.map fun p => (p.1,a.eval p.2)) = some cells' ∧ cells'.size = es'.length * sz ∧ zco g w r.st cells' sz es' ∧ es'.length = es.length
 | [],[],cells,es,es',_,hs,h,hf => by
   simp only [znY,Option.some.injEq] at hf
   subst hf
   exact ⟨cells,rfl,hs,h,rfl⟩
 | (i,x) :: ps,(j,y) :: qs,cells,es,es',hp,hs,h,hf => by
   simp only [ziB,yk,beq_iff_eq] at hp
   obtain ⟨⟨rfl,hx⟩,hps⟩:=hp
   simp only [znY] at hf
   split at hf
   ·rename_i hc
    obtain ⟨c1,c2,c3⟩:=hc
    obtain ⟨k1,k2⟩:=zhZ (F.get hx) c3 (by omega)
    have hcl:=zC k1
    simp only [yg] at hcl
    have hfit:=zzT (q:=sz) c1 (yd sz)
    obtain ⟨f1,f2⟩:=zs2 (a.eval x).cells cells (i * sz) (by omega)
    obtain ⟨cells',g1,g2,g3,g4⟩:=zol F h0 ps qs _ _ es' hps (by rw [f1,hs]; simp) (fun i' e hi' => by
     rw [ym] at hi'
     by_cases e1 : i = i'
     ·subst e1
      simp [c1] at hi'
      subst hi'
      refine ⟨c2,fun j c hj => ?_⟩
      obtain ⟨u,m1,m2⟩:=zdj k1 hj
      have hlt:=zb hj
      refine ⟨u,?_,m2,k2 u (yc m1)⟩
      rw [f2,if_neg (by omega),if_pos (by omega),Nat.add_sub_cancel_left]
      exact m1
     ·rw [if_neg e1] at hi'
      obtain ⟨m0,m1⟩:=h i' e hi'
      refine ⟨m0,fun j c hj => ?_⟩
      obtain ⟨u,m2,m3,m4⟩:=m1 j c hj
      have hlt:=zb hj
      refine ⟨u,?_,m3,m4⟩
      rw [f2]
      split
      ·exact m2
      ·split
       ·exfalso
        have:=apart (q:=i' * sz + j - i * sz) (sz:=sz) e1 (by omega : j < sz) (by omega)
        omega
       ·exact m2) hf
    refine ⟨cells',?_,g2,g3,by rw [g4]; simp⟩
    simp only [yu,Instr.fill]
    rw [if_neg]
    ·exact g1
    ·simp only [yp,decide_eq_true_eq,not_or]
     constructor
     ·simp; omega
     ·omega
   ·cases hf
 | [],_ :: _,_,_,_,hp,_,_,_ => by simp [ziB] at hp
 | _ :: _,[],_,_,_,hp,_,_,_ => by simp [ziB] at hp
theorem zfG {σ : zd} {c : C} {x : Fz} {u : Value} (h : zux c = some x) (hc : zw g w σ c u) : rep w g.N x u:=by
 unfold zux at h
 split at h
 ·injection h with h; subst h; simpa only [zw] using hc
 ·injection h with h; subst h; simp only [zw] at hc; exact hc.1
 ·cases h
theorem zes {α : Type} {x : Option α} {xs : Option (List α)} {ys : List α} (h : zfE x xs = some ys) : ∃ y z,x = some y ∧ xs = some z ∧ ys = y :: z:=by
 unfold zfE at h
 split at h
 ·injection h with h; exact ⟨_,_,rfl,rfl,h.symm⟩
 ·cases h
theorem zet : ∀ {cs : List C} {xs : List Fz},zdl cs = some xs → xs.length = cs.length ∧ ∀ (j : Nat) (x : Fz),xs[j]? = some x → ∃ c,cs[j]? = some c ∧ zux c = some x
 | [],xs,h => by
   simp only [zdl,Option.some.injEq] at h
   subst h
   exact ⟨rfl,fun j x hx => by simp at hx⟩
 | c :: cs,xs,h => by
   simp only [zdl] at h
   obtain ⟨y,z,h1,h2,rfl⟩:=zes h
   obtain ⟨l,ih⟩:=zet h2
   refine ⟨by simp [l],fun j x hx => ?_⟩
   cases j with
   | zero => simp at hx; subst hx; exact ⟨c,by simp,h1⟩
   | succ j => simpa using ih j x (by simpa using hx)
theorem zd0 : ∀ {es : List (List C)} {xs : List (List Fz)},zaq es = some xs → xs.length = es.length ∧ ∀ (i : Nat) (x : List Fz),xs[i]? = some x → ∃ e,es[i]? = some e ∧ zdl e = some x
 | [],xs,h => by
   simp only [zaq,Option.some.injEq] at h
   subst h
   exact ⟨rfl,fun j x hx => by simp at hx⟩
 | c :: cs,xs,h => by
   simp only [zaq] at h
   obtain ⟨y,z,h1,h2,rfl⟩:=zes h
   obtain ⟨l,ih⟩:=zd0 h2
   refine ⟨by simp [l],fun j x hx => ?_⟩
   cases j with
   | zero => simp at hx; subst hx; exact ⟨c,by simp,h1⟩
   | succ j => simpa using ih j x (by simpa using hx)
theorem zkU {σ : zd} {arr : Array Value} {sz : Nat} {es : List (List C)} {xs : List (List Fz)} (hs : arr.size = es.length * sz) (h : zco g w σ arr sz es) (hf : zaq es = some xs) : Lay w g.N sz xs arr.toList:=by
 obtain ⟨l,hg⟩:=zd0 hf
 refine ⟨by simp [hs,l],zdm fun e he => ?_,fun i e hi j x hj => ?_⟩
 ·obtain ⟨i,hi⟩:=yl.1 he
  obtain ⟨e',h1,h2⟩:=hg i e hi
  rw [(zet h2).1]
  exact (h i e' h1).1
 ·obtain ⟨e',h1,h2⟩:=hg i e hi
  obtain ⟨c,h3,h4⟩:=(zet h2).2 j x hj
  obtain ⟨u,m1,m2,m3⟩:=(h i e' h1).2 j c h3
  exact ⟨u,by simpa using m1,zfG h4 m2,m3⟩
theorem ziQ {σ : zd} {sz : Nat} {xs : List (List Fz)} {us : List Value} (h : Lay w g.N sz xs us) : zco g w σ us.toArray sz (xs.map fun e => e.map C.f):=fun i e hi => by
 rw [yn,yb] at hi
 obtain ⟨x,hx,rfl⟩:=hi
 refine ⟨by simpa using zbQ h.2.1 hx,fun j c hc => ?_⟩
 rw [yn,yb] at hc
 obtain ⟨y,hy,rfl⟩:=hc
 obtain ⟨u,k1,k2,k3⟩:=h.2.2 i x hx j y hy
 exact ⟨u,by simpa using k1,by simpa only [zw] using k2,k3⟩
def zzA (zs : List Value) (zero : List (List C)) : Bool:=zero.all fun e => ze5 zs e
theorem zz1 (R0 : Rel g w r.st) (L : Low r.base r.lim r.st) (F : Fr κ loc nt g w r a) {t e : TypeId} {len sz : Nat} {parts : Array (Nat × Operand)} {zs : List Value} {zero : List (List C)} {qs : List (Nat × X)} {b : B}
  (ho : o.op = .buildSlice t len parts) (hd : okD κ nt o.dst d = true) (ht : P.underlying t = some (.slice e)) (hs : zhf P e = some sz) (h0 : 0 < sz) (hlen : zero.length = len) (hcap : len * sz ≤ 16777216) (hz : zeroOf P e = some zs) (hzs : zs.length = sz) (hone : zs.all Value.oneCell' = true) (hc : zzA zs zero = true) (hp : ziB κ loc parts.toList qs = true)
  {r1 : R} (h : (znY r sz qs zero).bind (zvz r d sz b) = some r1) (k : znE κ (zaO o.dst d :: loc) nt g w r r1 (a.put o.dst) next) : o.wp P a w next Q:=by
 subst hlen
 rw [yh] at h
 obtain ⟨es',h,hfr⟩:=h
 obtain ⟨i,z,h1,h2,h3⟩:=zdc hz
 subst h3
 have hzc : z.cells.size = sz:=by simpa using hzs
 have hz1 : ∀ u ∈ z.cells.toList,u.oneCell' = true:=fun u hu => yo.1 hone u hu
 have hrows:=zjj (g:=g) (w:=w) (σ:=r.st) (zc:=z.cells) (es:=zero) hzc h0 (fun e he => (zax (yo.1 hc e he)).1) hz1
 obtain ⟨cells,k1,k2,k3,k4⟩:=zol F h0 parts.toList qs _ zero es' hp (by simp) hrows h
 have hn : es'.length = zero.length:=k4
 have hrun : (execOp a.eval o).run P w = .ok (.value (.slice (some ⟨w.heap.size,0,none⟩) es'.length es'.length)) (w.alloc (.cells cells e)):=by
  unfold zhf at hs
  have hsz : i.size = sz:=by simpa [h1] using hs
  have hcap' : ¬ (16777216 < zero.length * sz):=by omega
  have k1' : Instr.fill (fun i => some (i * sz,sz)) ((yq (zero.length * sz)).map (z.cells[· % z.cells.size]!)) (parts.map fun (i,x) => (i,a.eval x)).toList = some cells:=by simpa using k1
  unfold execOp
  simp only [ho]
  by_cases hl0 : zero.length = 0
  ·have hz' : (yq (zero.length * sz)).map (z.cells[· % z.cells.size]!) = (yq (zero.length * sz)).map ((#[] : Array Value)[· % (#[] : Array Value).size]!):=by simp [hl0,Array.range_zero']
   rw [hz'] at k1'
   simp [Instr.buildSlice,run_underlying ht,sizeOf,typeInfo,h1,hsz,hl0,newRow,hn]
   simp [hl0] at k1'
   simp [k1']
  ·have hne : ¬ (zero.length * sz = 0):=Nat.mul_ne_zero hl0 (by omega)
   simp [Instr.buildSlice,run_underlying ht,sizeOf,typeInfo,h1,hsz,hcap',hne,zc1 (w:=w) h1 h2,newRow,hn]
   simp at k1'
   simp [k1']
 have hca : cells = cells.toList.toArray:=by simp
 rw [hca] at hrun
 cases b with
 | fz =>
   simp only [zvz,yb] at hfr
   obtain ⟨xs,hfr,rfl⟩:=hfr
   have hlay:=zkU k2 k3 hfr
   rw [← (zd0 hfr).1] at hrun
   obtain ⟨g',H,R1,hv⟩:=zvZ R0 e hlay
   exact zaV (r1:=r) F hd H R1 L rfl rfl hrun hv k
 | tk =>
   simp only [zvz,yb] at hfr
   obtain ⟨xs,hfr,rfl⟩:=hfr
   have hlay:=zkU k2 k3 hfr
   rw [← (zd0 hfr).1] at hrun
   obtain ⟨g',H,R1,hv⟩:=zzy R0 e hlay
   exact zaV (r1:=r.alloc (.tok sz [xs.length])) F hd H R1 (L.append _) rfl rfl hrun hv k
 | rw =>
   simp only [zvz,Option.some.injEq] at hfr
   subst hfr
   obtain ⟨H,R1⟩:=zgH (sz:=sz) (es:=es') R0 e (us:=cells.toList) (by simpa using k2) (by simpa using k3)
   have hv:=zmp (g:=g) (w:=w) (σ:=r.st) (sz:=sz) (es:=es') (us:=cells.toList) e (by simpa using k2)
   exact zaV (r1:=r.alloc (.cells 0 sz es')) F hd H R1 (L.append _) rfl rfl hrun hv k
end
end Go.A

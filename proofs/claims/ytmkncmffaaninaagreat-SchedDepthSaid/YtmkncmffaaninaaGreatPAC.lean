/- A part of the proof of SchedDepth. Conditions: none. -/
import Derived.Test.YtmkncmffaaninaaGreatPAB
import Derived.Laws.StructEq
import Derived.ChangeKeysEq
import Derived.Laws.BytesArg
import Derived.Laws.Strings
set_option linter.unusedVariables false
set_option linter.unusedSimpArgs false
set_option linter.unusedSectionVars false
open List renaming eq_nil_of_length_eq_zero → ya,getElem?_take → yd,getElem?_append_left → yf,getElem?_map → yg,map_cons → yh,getElem?_drop → yk,length_take → yl,mem_iff_getElem? → ym,getElem?_eq_getElem → yo,ext_getElem? → yr,mem_of_mem_take → yu,mem_cons_of_mem → yv,mem_of_getElem? → yw,map_toArray → yx,map_nil → yz,getElem?_append_right → yA,mem_map → yC,all_cons → yD,length_map → yE,getElem?_append → yF,getElem?_modify → yG,size_toArray → yJ,nodup_append → yK,map_id → yL,cons_append → yO,nodup_cons → yP,map_append → yQ,range → yR,mem_cons → yT
open Option renaming map_eq_some_iff → yb,bind_eq_some_iff → yc
open Bool renaming and_eq_true → ye
open Nat renaming mul_le_mul_right → yi,add_mul → yp,add_sub_cancel → yq,eq_zero_or_pos → yy,le_refl → yB,add_zero → yI,min_eq_left → yN,zero_add → yS,mul_one → yU
open Array renaming getElem?_eq_some_iff → yj,getElem?_toList → yn,length_toList → yH,size_append → yM
namespace Go.A
section
variable {P : Program} {κ : List Tmp} {loc : List (Option Tmp)} {nt : Nat} {g : G} {w : World} {r r' : R} {a : Act} {o : Go.Oper} {d : D} {next : Act → World → Prop} {Q : Exit → Act → World → Prop}
def At (w : World) (b : Option Addr) (vs : List Value) : Prop:=∀ ad,b = some ad → ∀ j v,vs[j]? = some v → w.cell? (ad.add j) = some v
theorem zi2 {t ty e : TypeId} {i : TypeInfo} {z : Value} (ht : P.underlying t = some (.slice e)) (hi : P.info? e = some i) (hz : i.zero = some z) {base a' : Option Addr} {sLen sCap n c : Nat} {olds news : List Value}
  (hlo : olds.length = sLen * i.size) (holds : At w base olds) (hb : base = none → sCap = 0) (hle : sLen ≤ sCap) (hl : news.length = n * i.size) (hnews : At w a' news) (ha : a' = none → n = 0)
  (hg : sCap < sLen + n) (hlim : sLen + n ≤ LIM) (hby : i.bytes ≤ 32768) :
  (Builtin.append_ #[t,t] ty #[.slice base sLen sCap,.slice a' n c]).run P w =
   .ok (.slice (some ⟨w.heap.size,0,none⟩) (sLen + n) (grownCap w (sLen + n) sCap e)) (w.drew.alloc (.cells (olds.toArray ++ news.toArray ++ Builtin.zeroCells z.cells (grownCap w (sLen + n) sCap e - (sLen + n))) e)):=by
 unfold LIM at hlim
 have hbytes : (sLen + n) * i.bytes ≤ 140737488355328:=by
  have h1 : (sLen + n) * i.bytes ≤ 4294967296 * 32768:=Nat.mul_le_mul hlim hby
  omega
 cases a' with
 | none => have:=ha rfl; omega
 | some ad =>
   cases base with
   | some b => exact run_append_grow w t ty e i z ht hi hz b sLen sCap olds hlo (holds b rfl) ad n c news hl (hnews ad rfl) hg (by omega) (growslice_fits hg hbytes)
   | none =>
     have h0:=hb rfl
     subst h0
     have h1 : sLen = 0:=by omega
     subst h1
     have h2 : olds = []:=ya (by simpa using hlo)
     subst h2
     have:=run_append_nil w t ty e i z ht hi hz ad n c news hl (hnews ad rfl) (by omega) (by omega) (by rw [yS] at hbytes; omega)
     simpa using this
theorem zi4 {t ty e : TypeId} {i : TypeInfo} (ht : P.underlying t = some (.slice e)) (hi : P.info? e = some i) {b off : Nat} {a' : Option Addr} {sLen sCap n c : Nat} {news : List Value} {cur : Array Value} {te : TypeId} (hh : w.heap[b]? = some (.cells cur te (0,0)))
  (hl : news.length = n * i.size) (hnews : At w a' news) (ha : a' = none → n = 0) (h1 : ∀ u ∈ news,u.oneCell' = true) (hroom : sLen + n ≤ sCap) (hfit : off + sLen * i.size + news.length ≤ cur.size) :
  (Builtin.append_ #[t,t] ty #[.slice (some ⟨b,off,none⟩) sLen sCap,.slice a' n c]).run P w = .ok (.slice (some ⟨b,off,none⟩) (sLen + n) sCap) (w.setRow b (zcO cur (off + sLen * i.size) news)):=by
 have hf : (Builtin.firstCells i.size n (.slice a' n c)).run P w = .ok news.toArray w:=by
  cases a' with
  | none =>
    have:=ha rfl
    subst this
    have h2 : news = []:=ya (by simpa using hl)
    subst h2
    exact run_firstCells_none w _ _ _ _
  | some ad => exact run_firstCells_some w i.size n ad n c news hl (hnews ad rfl)
 have hst:=run_storeCells_at P b (off + sLen * i.size) te news 0 cur w hh (by simpa using hfit) h1
 simp only [yI] at hst
 simp [Builtin.append_,run_underlying ht,sizeOf,typeInfo,hi,Builtin.lenOf,hroom,hf,Addr.add_lit,hst,zcO]
theorem zjg {t ty e : TypeId} {i : TypeInfo} (ht : P.underlying t = some (.slice e)) (hi : P.info? e = some i) {base a' : Option Addr} {c0 c : Nat} :
  (Builtin.append_ #[t,t] ty #[.slice base 0 c0,.slice a' 0 c]).run P w = .ok (.slice base 0 c0) w:=by
 have hf : (Builtin.firstCells i.size 0 (.slice a' 0 c)).run P w = .ok #[] w:=by
  cases a' with
  | none => exact run_firstCells_none w _ _ _ _
  | some ad => simpa using run_firstCells_some (P:=P) w i.size 0 ad 0 c [] (by simp) (by simp)
 cases base <;> simp [Builtin.append_,run_underlying ht,sizeOf,typeInfo,hi,Builtin.lenOf,hf,storeCells]
theorem zuM {sz : Nat} {xs : List (List Fz)} (h : znw sz xs = true) : zbO sz xs:=zdm (zj2 h)
theorem zg6 (R0 : Rel g w r.st) {v : V} {u : Value} {ys : List (List Fz)} {sz : Nat} (hv : zf g w r.st v u) (h : elems r.st v = some ys) (hsz : znw sz ys = true) :
  ∃ a' c news,u = .slice a' ys.length c ∧ Lay w g.N sz ys news ∧ At w a' news ∧ (a' = none → ys.length = 0):=by
 have frz : rep w g.N (.sl ys) u → ∃ a' c news,u = .slice a' ys.length c ∧ Lay w g.N sz ys news ∧ At w a' news ∧ (a' = none → ys.length = 0):=fun hr => by
  obtain ⟨a',c,sz',us,e,_,hl,hc⟩:=zmJ hr fun _ _ h => zpt h
  rcases hc with rfl | ⟨b,oo,rfl,hc⟩
  ·refine ⟨a',c,[],e,⟨by simp,by simp only [zbO],fun i e h => by simp at h⟩,fun ad _ j v h => by simp at h,fun _ => rfl⟩
  ·refine ⟨_,c,us,e,?_,fun ad e1 j v hj => ?_,fun h => by cases h⟩
   ·cases ys with
    | nil => exact ⟨by simpa using hl.1,by simp only [zbO],fun i e h => by simp at h⟩
    | cons y ys =>
      have e1 : sz' = sz:=by rw [← zfh hl.2.1 y (by simp),zj2 hsz y (by simp)]
      rwa [e1] at hl
   ·injection e1 with e1
    subst e1
    rw [zaA]
    exact hc j v hj
 unfold elems at h
 split at h
 ·rename_i id ver lo n
  rw [yc] at h
  obtain ⟨ob,h1,h2⟩:=h
  unfold Ob.frz at h2
  split at h2
  ·rename_i ver' sz0 es
   split at h2
   ·rename_i hver
    subst hver
    obtain ⟨a',c,e1,e2,e3,e4⟩:=zfP hv h1
    obtain ⟨hyl,hyg⟩:=zeh h2
    by_cases hes : es = []
    ·subst hes
     have:=e3 rfl
     have hn : n = 0:=by omega
     subst hn
     simp at hyl
     subst hyl
     exact ⟨a',c,[],e1,⟨by simp,by simp only [zbO],fun i e h => by simp at h⟩,fun ad _ j v h => by simp at h,fun _ => rfl⟩
    ·obtain ⟨f1,f2,arr,t,f3,f4⟩:=e4 fun h => hes (ya h)
     obtain ⟨_,_,arr',t',m1,m2,m3⟩:=R0.ob id _ h1 hes
     rw [m1] at f3
     injection f3 with f3
     injection f3 with f3 _
     subst f3
     have hyn : ys.length = n:=by rw [hyl]; simp; omega
     have hsub : ∀ i e,((es.drop lo).take n)[i]? = some e → es[lo + i]? = some e:=fun i e hi => by
      rw [yd] at hi
      split at hi
      ·rwa [yk] at hi
      ·cases hi
     have hszz : ys ≠ [] → sz0 = sz:=fun hne => by
      cases ys with
      | nil => exact absurd rfl hne
      | cons y ys =>
        obtain ⟨e,h3,h4⟩:=hyg 0 y (by simp)
        rw [← (m3 _ e (hsub 0 e h3)).1,← (zex h4).1]
        exact zj2 hsz y (by simp)
     refine ⟨a',c,(arr'.toList.drop (lo * sz0)).take (n * sz),by rw [hyn]; exact e1,⟨?_,zuM hsz,fun i y hi j x hj => ?_⟩,fun ad ead j v hj => ?_,fun ha => ?_⟩
     ·rw [hyn,yl,List.length_drop,yH]
      by_cases hne : ys = []
      ·have : n = 0:=by rw [← hyn,hne]; rfl
       simp [this]
      ·have h5:=hszz hne
       subst h5
       have : (lo + n) * sz0 ≤ es.length * sz0:=yi _ f1
       rw [yp] at this
       omega
     ·have hne : ys ≠ []:=fun h => by subst h; simp at hi
      have h5:=hszz hne
      subst h5
      obtain ⟨e,h3,h4⟩:=hyg i y hi
      obtain ⟨cc,h6,h7⟩:=(zex h4).2 j x hj
      obtain ⟨h8,h9⟩:=m3 _ e (hsub i e h3)
      obtain ⟨u',q1,q2,q3⟩:=h9 j cc h6
      refine ⟨u',?_,zfH h7 q2,q3⟩
      have hi':=zb hi
      have hj' : j < sz0:=by have:=zb h6; omega
      have hlt:=inside (n:=n) (by omega : i < n) hj'
      rw [yd,if_pos hlt,yk,yn]
      rw [yp,Nat.add_assoc] at q1
      exact q1
     ·have hlt:=zb hj
      rw [yd] at hj
      split at hj
      ·rw [yk,yn] at hj
       have hn0 : n ≠ 0:=fun h0 => by subst h0; simp at hlt
       have hc0 : c ≠ 0:=by omega
       rw [f2 hc0] at ead
       injection ead with ead
       subst ead
       rw [zaA,zg2 m1]
       exact hj
      ·cases hj
     ·rw [hyn]
      have : c = 0:=by
       rcases yy c with h0 | h0
       ·exact h0
       ·rw [f2 (by omega)] at ha; cases ha
      omega
   ·cases h2
  ·cases h2
 ·injection h with h
  subst h
  exact frz (zrn hv)
 ·injection h with h
  subst h
  exact frz (zrd hv)
 ·cases h
theorem zBt {σ : zd} {t : Nat} {ob : Ob} (h : σ[t]? = some ob) : σ.set t ob = σ:=by
 refine yr fun i => ?_
 rw [zxS]
 split
 ·rename_i hc; rw [← hc.1]; exact h.symm
 ·rfl
theorem zzt {fr : List Nat} {k n : Nat} (h : fr[k]? = some n) : fr.set k n = fr:=by
 refine yr fun i => ?_
 rw [List.getElem?_set]
 split
 ·rename_i hc
  subst hc
  rw [if_pos (zb h)]
  exact h.symm
 ·rfl
theorem zwr {sz k n : Nat} {ob : Ob} (h : ob.front sz k = some n) : ∃ fr,ob = .tok sz fr ∧ fr[k]? = some n:=by
 unfold Ob.front at h
 split at h
 ·split at h
  ·rename_i e; subst e; exact ⟨_,rfl,h⟩
  ·cases h
 ·cases h
theorem zrV {N : zf0} {sz : Nat} (h0 : 0 < sz) {ys : List (List Fz)} {news : List Value} (hlay : Lay w N sz ys news) : ∀ v ∈ news,v.oneCell' = true:=fun v hv => by
 obtain ⟨q,hq⟩:=ym.1 hv
 have hlt:=zb hq
 rw [hlay.1] at hlt
 have e1 : q / sz < ys.length:=(Nat.div_lt_iff_lt_mul h0).2 hlt
 have e2 : q % sz < sz:=Nat.mod_lt _ h0
 have e3:=zbQ hlay.2.1 (yo e1)
 obtain ⟨u,k1,_,k3⟩:=hlay.2.2 _ _ (yo e1) _ _ (yo (by rw [e3]; exact e2))
 have e4 : q / sz * sz + q % sz = q:=by rw [Nat.mul_comm]; exact Nat.div_add_mod q sz
 rw [e4,hq] at k1
 injection k1 with k1
 rw [k1]; exact k3
theorem zDu (R0 : Rel g w r.st) (L : Low r.base r.lim r.st) (F : Fr κ loc nt g w r a) {t e : TypeId} {s x : Operand} {sz : Nat} {i : TypeInfo} {zs : List Value} {ct : Go.Call}
  (ho : o.op = .call ct) (hcal : ct.callee = .builtin .append) (hargs : ct.args = #[s,x]) (htys : ct.argTypes = #[t,t])
  (hd : okD κ nt o.dst d = true) (ht : P.underlying t = some (.slice e)) (hi : P.info? e = some i) (hb : i.bytes ≤ 32768) (hs : i.size = sz) (h0 : 0 < sz) (hz : zeroOf P e = some zs) (hzs : zs.length = sz)
  {tk k : Nat} {xs ys : List (List Fz)} (hvs : zf g w r.st (.one (.ap tk k xs)) (a.eval s)) {vx : V} (hvx : zf g w r.st vx (a.eval x)) (hel : elems r.st vx = some ys) (hok : znw sz ys = true)
  {r1 : R} (h : (r.st[tk]?).bind (zor r d sz tk k xs ys) = some r1) (kk : znX κ (zaS o.dst d :: loc) nt g w r r1 (a.put o.dst) next) : o.wp P a w next Q:=by
 subst hs
 rw [yc] at h
 obtain ⟨ob,hob,h⟩:=h
 unfold zor at h
 split at h
 ·rename_i hc
  obtain ⟨hfr,hlim⟩:=hc
  injection h with h
  subst h
  obtain ⟨fr,rfl,hn⟩:=zwr hfr
  obtain ⟨iz,z,h1,h2,h3⟩:=zc2 hz
  rw [hi] at h1
  injection h1 with h1
  subst h1
  subst h3
  have hzl : z.cells.size = i.size:=by simpa using hzs
  simp only [zf,zw] at hvs
  obtain ⟨hrep,n,hfn,_,htv,sz',htz,hlx⟩:=hvs
  rw [zdE hob hn] at hfn
  injection hfn with hfn
  subst hfn
  rw [zbV hob] at htz
  injection htz with htz
  subst htz
  have hu:=htv rfl
  obtain ⟨a',c,news,ex,hlay,hat,hnone⟩:=zg6 R0 hvx hel hok
  have h1news:=zrV h0 hlay
  have hexec : ∀ {v' : Value} {w' : World},(Builtin.append_ #[t,t] o.type #[a.eval s,a.eval x]).run P w = .ok v' w' → (execOp a.eval o).run P w = .ok (.value v') w':=fun {v' w'} hr => by
   unfold execOp
   simp only [ho,resolve,hcal,hargs,htys,invoke,builtin,Sem.run_bind,Sem.run_pure,Result.andThen_ok,yx,yh,yz,hr]
  obtain ⟨b0,c0,us,e0,hc0,hlayx,hxs⟩ : ∃ b0 c0 us,a.eval s = .slice b0 xs.length c0 ∧ xs.length ≤ c0 ∧ Lay w g.N i.size xs us ∧ At w b0 us:=by
   obtain ⟨b0,c0,sz1,us,e1,e2,e3,e4⟩:=zmJ hrep fun _ _ h => zpt h
   rcases e4 with rfl | ⟨bb,oo,rfl,e5⟩
   ·exact ⟨b0,c0,[],e1,e2,⟨by simp,by simp only [zbO],fun i e h => by simp at h⟩,fun ad _ j v h => by simp at h⟩
   ·refine ⟨_,c0,us,e1,e2,?_,fun ad ead j v hj => ?_⟩
    ·cases xs with
     | nil => exact ⟨by simpa using e3.1,by simp only [zbO],fun i e h => by simp at h⟩
     | cons y ys =>
       have e6 : sz1 = i.size:=by rw [← zfh e3.2.1 y (by simp),zfh hlx y (by simp)]
       rwa [e6] at e3
    ·injection ead with ead
     subst ead
     rw [zaA]
     exact e5 j v hj
  have htok:=R0.ob tk _ hob k _ hn
  by_cases hroom : xs.length + ys.length ≤ c0
  ·by_cases hzero : xs.length + ys.length = 0
   ·
    have hy0 : ys = []:=ya (by omega)
    have hx0 : xs = []:=ya (by omega)
    subst hy0 hx0
    have hst : r.setOb tk ((Ob.tok i.size fr).setFront k 0) = r:=by
     have e1 : (Ob.tok i.size fr).setFront k 0 = .tok i.size fr:=by
      show Ob.tok i.size (fr.set k 0) = _
      rw [zzt (by simpa using hn)]
     rw [e1]
     unfold R.setOb
     rw [zBt hob]
    have kk' : znX κ (zaS o.dst d :: loc) nt g w r (r.put d (.one (.ap tk k []))) (a.put o.dst) next:=by simpa [hst] using kk
    refine zlF R0 L F hd (hexec (v':=.slice b0 0 c0) ?_) ?_ kk'
    ·rw [e0,ex]
     exact zjg ht hi
    ·simp only [zf,zw]
     have e0' : a.eval s = .slice b0 0 c0:=by simpa using e0
     rw [← e0']
     exact ⟨hrep,_,zdE hob hn,yB _,fun _ => hu,_,zbV hob,hlx⟩
   ·rcases htok with ⟨m0,ma,m1⟩ | ⟨bb,oo,cc,arr,ty,m1,m2,m3,m4,m5,m6,m7⟩
    ·rw [← hu,e0] at m1
     injection m1 with _ _ m1
     omega
    ·rw [← hu,e0] at m1
     injection m1 with m1 _ m1c
     subst m1 m1c
     rw [e0] at hrep
     obtain ⟨arr',ty',g',q1,q2,q3,q4,q5⟩:=zBf R0 hob hn (by rw [← hu,e0]) (by omega) hrep hlx hlay hroom
     refine zaX (r1:=r.setOb tk (.tok i.size (fr.set k (xs.length + ys.length)))) F hd q3 q4 L.set rfl rfl (hexec ?_) (by simp only [zf]; exact q5) kk
     rw [e0,ex]
     exact zi4 ht hi q1 hlay.1 hat hnone h1news hroom q2
  ·have hge:=grownCap_ge w (xs.length + ys.length) c0 e
   have hb0 : b0 = none → c0 = 0:=fun hb => by
    rcases htok with ⟨m0,ma,m1⟩ | ⟨bb,oo,cc,arr,ty,m1,_⟩
    ·rw [← hu,e0] at m1
     injection m1
    ·rw [← hu,e0] at m1
     injection m1 with m1 _ _
     rw [hb] at m1
     cases m1
   have hrun:=zi2 (P:=P) (w:=w) (ty:=o.type) ht hi h2 hlayx.1 hxs hb0 hc0 (c:=c) hlay.1 hat hnone (by omega) hlim hb
   obtain ⟨D1,D2⟩:=drawn R0 1
   obtain ⟨g',q3,q4,q5⟩:=zBc (e:=e) (c:=grownCap w (xs.length + ys.length) c0 e) (arr:=us.toArray ++ news.toArray ++ Builtin.zeroCells z.cells (grownCap w (xs.length + ys.length) c0 e - (xs.length + ys.length))) D2 hob hn (hlayx.mono D1.keeps) (hlay.mono D1.keeps) (by omega) hge
    ⟨(Builtin.zeroCells z.cells (grownCap w (xs.length + ys.length) c0 e - (xs.length + ys.length))).toList,by simp⟩ (by
      simp only [yM,yJ,size_zeroCells,hzl,hlayx.1,hlay.1,← yp]
      congr 1
      omega) (by omega)
   refine zaX (r1:=r.setOb tk (.tok i.size (fr.set k (xs.length + ys.length)))) F hd (D1.trans q3) q4 L.set rfl rfl (hexec ?_) (by simp only [zf]; exact q5) kk
   rw [e0,ex]
   exact hrun
 ·cases h
theorem zDs (R0 : Rel g w r.st) (L : Low r.base r.lim r.st) (F : Fr κ loc nt g w r a) {t e : TypeId} {s x : Operand} {sz : Nat} {i : TypeInfo} {zs : List Value} {ct : Go.Call}
  (ho : o.op = .call ct) (hcal : ct.callee = .builtin .append) (hargs : ct.args = #[s,x]) (htys : ct.argTypes = #[t,t])
  (hd : okD κ nt o.dst d = true) (ht : P.underlying t = some (.slice e)) (hi : P.info? e = some i) (hb : i.bytes ≤ 32768) (hs : i.size = sz) (h0 : 0 < sz) (hz : zeroOf P e = some zs) (hzs : zs.length = sz)
  {id ver n : Nat} {ys : List (List Fz)} (hvs : zf g w r.st (.one (.own id ver 0 n)) (a.eval s)) {vx : V} (hvx : zf g w r.st vx (a.eval x)) (hel : elems r.st vx = some ys) (hok : znw sz ys = true)
  {r1 : R} (h : (r.st[id]?).bind (ztE r d sz id ver n ys) = some r1) (kk : znX κ (zaS o.dst d :: loc) nt g w r r1 (a.put o.dst) next) : o.wp P a w next Q:=by
 subst hs
 rw [yc] at h
 obtain ⟨ob,hob,h⟩:=h
 unfold ztE at h
 split at h
 ·rename_i hc
  obtain ⟨hrow,hpos,hlim⟩:=hc
  injection h with h
  subst h
  obtain ⟨es,rfl⟩:=zkf hrow
  obtain ⟨iz,z,h1,h2,h3⟩:=zc2 hz
  rw [hi] at h1
  injection h1 with h1
  subst h1
  subst h3
  have hzl : z.cells.size = i.size:=by simpa using hzs
  have hown:=zfP hvs hob
  obtain ⟨b0,c0,e0,hc0,hl0,hl1⟩:=hown
  obtain ⟨a',c,news,ex,hlay,hat,hnone⟩:=zg6 R0 hvx hel hok
  have h1news:=zrV h0 hlay
  have hexec : ∀ {v' : Value} {w' : World},(Builtin.append_ #[t,t] o.type #[a.eval s,a.eval x]).run P w = .ok v' w' → (execOp a.eval o).run P w = .ok (.value v') w':=fun {v' w'} hr => by
   unfold execOp
   simp only [ho,resolve,hcal,hargs,htys,invoke,builtin,Sem.run_bind,Sem.run_pure,Result.andThen_ok,yx,yh,yz,hr]
  have hrowl:=ziV (σ:=r.st) hlay
  have hgrow : (Ob.cells ver i.size es).grow n (ys.map fun e => e.map C.f) = .cells (ver + 1) i.size (es.take n ++ ys.map fun e => e.map C.f):=rfl
  rw [hgrow] at kk
  have hlow : ∀ ob',Low r.base r.lim (r.setOb id ob').st:=fun ob' => L.set
  by_cases hroom : n + ys.length ≤ c0
  ·have hes : es ≠ []:=fun h => by
    have:=hl0 (by rw [h]; rfl)
    omega
   obtain ⟨arr,ty,q0,q1,q2,q3,q4,q5⟩:=zB8 R0 hob hes ⟨b0,c0,rfl,hc0,hl0,hl1⟩ (by simpa using hlay.1) hrowl (by simpa using hroom) (by simpa using hpos)
   subst q0
   rw [yE] at q5
   refine zaX (r1:=r.setOb id (.cells (ver + 1) i.size (es.take n ++ ys.map fun e : List Fz => e.map C.f))) F hd q3 q4 (hlow _) rfl rfl (hexec ?_) (by simp only [zf]; exact q5) kk
   rw [e0,ex]
   have:=zi4 (P:=P) (w:=w) (ty:=o.type) (off:=0) (sLen:=n) (sCap:=c0) (c:=c) ht hi q1 hlay.1 hat hnone h1news hroom (by simpa using q2)
   simpa using this
  ·have hge:=grownCap_ge w (n + ys.length) c0 e
   obtain ⟨us,hul,hat0,hrow0,hb0⟩ : ∃ us,us.length = n * i.size ∧ At w b0 us ∧ zca g w r.st us.toArray i.size (es.take n) ∧ (b0 = none → c0 = 0):=by
    by_cases hes : es = []
    ·have h3:=hl0 (by rw [hes]; rfl)
     have h4 : n = 0:=by omega
     subst h4
     exact ⟨[],by simp,fun ad _ j v h => by simp at h,fun i e h => by simp at h,fun _ => h3⟩
    ·obtain ⟨f1,f2,arr,ty,f3,f4⟩:=hl1 fun h => hes (ya h)
     obtain ⟨_,_,arr',ty',m1,m2,m3⟩:=R0.ob id _ hob hes
     rw [m1] at f3
     injection f3 with f3
     injection f3 with f3 _
     subst f3
     have hfit : n * i.size ≤ es.length * i.size:=yi _ (by omega)
     refine ⟨arr'.toList.take (n * i.size),by rw [yl,yH]; omega,fun ad ead j v hj => ?_,fun q e hq => ?_,fun hb => ?_⟩
     ·rw [yd] at hj
      split at hj
      ·have hc : c0 ≠ 0:=fun h => by
        have h4 : n = 0:=by omega
        subst h4
        omega
       rw [f2 hc] at ead
       injection ead with ead
       subst ead
       rw [zaA,zg2 m1]
       rw [yn] at hj
       simpa using hj
      ·cases hj
     ·rw [yd] at hq
      split at hq
      ·refine ⟨(m3 q e hq).1,fun j c hc => ?_⟩
       obtain ⟨u,k1,k2,k3⟩:=(m3 q e hq).2 j c hc
       have hj : j < i.size:=by have:=zb hc; have:=(m3 q e hq).1; omega
       refine ⟨u,?_,k2,k3⟩
       rw [List.getElem?_toArray,yd,if_pos (inside (by assumption) hj),yn]
       exact k1
      ·cases hq
     ·rcases yy c0 with h5 | h5
      ·exact h5
      ·rw [f2 (by omega)] at hb; cases hb
   have hnl : n ≤ es.length:=by
    by_cases hes : es = []
    ·have:=hl0 (by rw [hes]; rfl); omega
    ·have:=(hl1 fun h => hes (ya h)).1; omega
   have hrun:=zi2 (P:=P) (w:=w) (ty:=o.type) ht hi h2 hul hat0 hb0 hc0 (c:=c) hlay.1 hat hnone (by omega) hlim hb
   obtain ⟨D1,D2⟩:=drawn R0 1
   obtain ⟨g',q3,q4,q5⟩:=zAP (e:=e) (c:=grownCap w (n + ys.length) c0 e) (arr:=us.toArray ++ news.toArray ++ Builtin.zeroCells z.cells (grownCap w (n + ys.length) c0 e - (n + ys.length))) D2 hob hnl hul (D1.zca hrow0) (by simpa using hlay.1) (D1.zca hrowl) (by simpa using hge) (by simpa using hpos)
    ⟨(Builtin.zeroCells z.cells (grownCap w (n + ys.length) c0 e - (n + ys.length))).toList,by simp⟩ (by
      simp only [yM,yJ,size_zeroCells,hzl,hul,hlay.1,← yp]
      congr 1
      omega)
   rw [yE] at q5
   refine zaX (r1:=r.setOb id (.cells (ver + 1) i.size (es.take n ++ ys.map fun e : List Fz => e.map C.f))) F hd (D1.trans q3) q4 (hlow _) rfl rfl (hexec ?_) (by simp only [zf]; exact q5) kk
   rw [e0,ex]
   exact hrun
 ·split at h
  ·rename_i hc
   obtain ⟨hrow,hz0⟩:=hc
   injection h with h
   subst h
   have hy0 : ys = []:=ya (by omega)
   have hn0 : n = 0:=by omega
   subst hy0 hn0
   obtain ⟨es,rfl⟩:=zkf hrow
   have hown:=zfP hvs hob
   obtain ⟨b0,c0,e0,hc0,hl0,hl1⟩:=hown
   obtain ⟨a',c,news,ex,hlay,hat,hnone⟩:=zg6 R0 hvx hel hok
   have hexec : ∀ {v' : Value} {w' : World},(Builtin.append_ #[t,t] o.type #[a.eval s,a.eval x]).run P w = .ok v' w' → (execOp a.eval o).run P w = .ok (.value v') w':=fun {v' w'} hr => by
    unfold execOp
    simp only [ho,resolve,hcal,hargs,htys,invoke,builtin,Sem.run_bind,Sem.run_pure,Result.andThen_ok,yx,yh,yz,hr]
   refine zlF R0 L F hd (hexec (v':=.slice b0 0 c0) ?_) ?_ kk
   ·rw [e0,ex]
    exact zjg ht hi
   ·rw [← e0]
    exact hvs
  ·cases h
theorem zyw (R0 : Rel g w r.st) (L : Low r.base r.lim r.st) (F : Fr κ loc nt g w r a) {t e : TypeId} {s x : Operand} {sz : Nat} {i : TypeInfo} {zs : List Value} {ct : Go.Call}
  (ho : o.op = .call ct) (hcal : ct.callee = .builtin .append) (hargs : ct.args = #[s,x]) (htys : ct.argTypes = #[t,t])
  (hd : okD κ nt o.dst d = true) (ht : P.underlying t = some (.slice e)) (hi : P.info? e = some i) (hb : i.bytes ≤ 32768) (hs : i.size = sz) (h0 : 0 < sz) (hz : zeroOf P e = some zs) (hzs : zs.length = sz)
  {vs vx : V} (hvs : zf g w r.st vs (a.eval s)) (hvx : zf g w r.st vx (a.eval x))
  {r1 : R} (h : ((elems r.st vx).bind fun ys => if znw sz ys then zCM r d sz ys vs else none) = some r1) (kk : znX κ (zaS o.dst d :: loc) nt g w r r1 (a.put o.dst) next) : o.wp P a w next Q:=by
 rw [yc] at h
 obtain ⟨ys,hel,h⟩:=h
 split at h
 ·rename_i hok
  unfold zCM at h
  split at h
  ·exact zDu R0 L F ho hcal hargs htys hd ht hi hb hs h0 hz hzs hvs hvx hel hok h kk
  ·exact zDs R0 L F ho hcal hargs htys hd ht hi hb hs h0 hz hzs hvs hvx hel hok h kk
  ·cases h
 ·cases h
theorem zAx {σ : zd} (R : Rel g w σ) {id ver sz lo : Nat} {es : List (List C)} {ys : List (List Fz)} {news : List Value} (hid : σ[id]? = some (.cells ver sz es)) (hne : es ≠ []) (hlay : Lay w g.N sz ys news) (h1 : ∀ v ∈ news,v.oneCell' = true) (h0 : 0 < sz) (hle : lo + ys.length ≤ es.length) :
  ∃ arr t,w.heap[g.ρ id]? = some (.cells arr t (0,0)) ∧ lo * sz + news.length ≤ arr.size ∧
    Ext g w σ g (w.setRow (g.ρ id) (zcO arr (lo * sz) news)) (σ.set id (.cells ver sz (es.take lo ++ (ys.map (fun e => e.map C.f) ++ es.drop (lo + ys.length))))) ∧
    Rel g (w.setRow (g.ρ id) (zcO arr (lo * sz) news)) (σ.set id (.cells ver sz (es.take lo ++ (ys.map (fun e => e.map C.f) ++ es.drop (lo + ys.length))))):=by
 obtain ⟨how,hN,arr,t,hh,hsz,hrow⟩:=R.ob id _ hid hne
 have hnl : news.length = ys.length * sz:=hlay.1
 have hfit : lo * sz + news.length ≤ arr.size:=by
  have : (lo + ys.length) * sz ≤ es.length * sz:=yi _ hle
  rw [yp] at this
  omega
 refine ⟨arr,t,hh,hfit,?_⟩
 have hrowl:=ziV (σ:=σ) hlay
 have hglt : g.ρ id < w.heap.size:=(yj.1 hh).1
 have hlen' : (es.take lo ++ (ys.map (fun e => e.map C.f) ++ es.drop (lo + ys.length))).length = es.length:=by
  simp
  omega
 refine replace (g':=g) R hid (fun b => b = g.ρ id) rfl rfl rfl (by simp) (fun b hb ht => ⟨setRow_other w _ _ _ ht,rfl,fun _ h => h⟩)
  (fun b hb => ⟨.inl (by rw [hb]; exact how),rfl,fun o h => absurd (by rw [hb] at h; exact h) (hN o)⟩) (fun _ _ _ h => h) (fun _ _ => rfl) (fun _ _ _ => rfl) (fun b o h => by simpa using R.nb b o h) ?_ ?_ ?_ (fun _ _ h => by cases h) ?_
 ·intro ver' sz' len' hs
  refine .inl ⟨?_,rfl,fun _ arr0 t0 hq0 => ?_⟩
  ·rw [zn hid] at hs
   injection hs with hs
   rw [zn (zy hid),← hs,hlen']
  ·rw [hh] at hq0
   injection hq0 with hq0
   injection hq0 with hq0 hq1
   subst hq0
   subst hq1
   exact ⟨_,setRow_heap w _ _ _ _ _ hh,ze7 hfit⟩
 ·intro es' h; cases h
 ·intro k n h; simp [zlw,hid,Ob.fr] at h
 ·intro H hne'
  refine ⟨how,hN,_,t,setRow_heap w _ _ _ _ _ hh,by rw [ze7 hfit,hlen']; exact hsz,fun i x hx => ?_⟩
  have old : ∀ i x,es[i]? = some x → (i < lo ∨ lo + ys.length ≤ i) → x.length = sz ∧ ∀ j c,x[j]? = some c → ∃ u,(zcO arr (lo * sz) news)[i * sz + j]? = some u ∧ zw g (w.setRow (g.ρ id) (zcO arr (lo * sz) news)) (σ.set id (.cells ver sz (es.take lo ++ (ys.map (fun e => e.map C.f) ++ es.drop (lo + ys.length))))) c u ∧ u.oneCell' = true:=fun i x hx hi => by
   refine ⟨(hrow i x hx).1,fun j c hc => ?_⟩
   obtain ⟨u,a,b,d⟩:=(hrow i x hx).2 j c hc
   have hj : j < sz:=by have:=zb hc; have:=(hrow i x hx).1; omega
   refine ⟨u,?_,H.zw c u b,d⟩
   rw [zfj hfit]
   rcases hi with hi | hi
   ·have:=inside (q:=j) hi hj
    rw [if_pos (by omega)]
    exact a
   ·have h2 : (lo + ys.length) * sz ≤ i * sz:=yi _ hi
    rw [yp] at h2
    rw [if_neg (by omega),if_neg (by omega)]
    exact a
  rw [yF] at hx
  by_cases c1 : i < lo
  ·rw [if_pos (by simp; omega),yd,if_pos c1] at hx
   exact old i x hx (.inl c1)
  ·rw [if_neg (by simp; omega),yF] at hx
   have htl : (es.take lo).length = lo:=by simp; omega
   rw [htl] at hx
   by_cases c2 : i - lo < ys.length
   ·rw [if_pos (by simpa using c2)] at hx
    obtain ⟨k1,k2⟩:=hrowl (i - lo) x hx
    refine ⟨k1,fun j c hc => ?_⟩
    obtain ⟨u,a,b,d⟩:=k2 j c hc
    have hj : j < sz:=by have:=zb hc; omega
    refine ⟨u,?_,H.zw c u b,d⟩
    rw [zfj hfit]
    have e1 : i * sz = lo * sz + (i - lo) * sz:=by rw [← yp]; congr 1; omega
    have e2:=inside (q:=j) c2 hj
    rw [if_neg (by omega),if_pos (by omega),show i * sz + j - lo * sz = (i - lo) * sz + j from by omega]
    simpa using a
   ·rw [if_neg (by simpa using c2),yk] at hx
    simp only [yE] at hx
    rw [show lo + ys.length + (i - lo - ys.length) = i from by omega] at hx
    exact old i x hx (.inr (by omega))
theorem zAB {N : zf0} {sz k : Nat} {ys : List (List Fz)} {news : List Value} (h : Lay w N sz ys news) (hk : k ≤ ys.length) : Lay w N sz (ys.take k) (news.take (k * sz)):=by
 obtain ⟨h1,h2,h3⟩:=h
 have hks : k * sz ≤ ys.length * sz:=yi _ hk
 refine ⟨by rw [yl,yl,h1,yN hks,yN hk],zdm fun e he => zfh h2 e (yu he),fun i e hi j x hj => ?_⟩
 rw [yd] at hi
 split at hi
 ·rename_i hik
  obtain ⟨u,a,b,c⟩:=h3 i e hi j x hj
  have hj' : j < sz:=by have:=zb hj; have:=zbQ h2 hi; omega
  have:=inside (q:=j) hik hj'
  exact ⟨u,by rw [yd,if_pos this]; exact a,b,c⟩
 ·cases hi
theorem zyh (R0 : Rel g w r.st) (L : Low r.base r.lim r.st) (F : Fr κ loc nt g w r a) {t t' e : TypeId} {x y : Operand} {sz : Nat} {ct : Go.Call}
  (ho : o.op = .call ct) (hcal : ct.callee = .builtin .copy) (hargs : ct.args = #[x,y]) (htys : ct.argTypes = #[t,t'])
  (hd : okD κ nt o.dst d = true) (ht : P.underlying t = some (.slice e)) (hs : zhI P e = some sz) (h0 : 0 < sz)
  {vx vy : V} (hvx : zf g w r.st vx (a.eval x)) (hvy : zf g w r.st vy (a.eval y))
  {r1 : R} (h : ((elems r.st vy).bind fun ys => if znw sz ys then zEA r d sz ys vx else none) = some r1) (kk : znX κ (zaS o.dst d :: loc) nt g w r r1 (a.put o.dst) next) : o.wp P a w next Q:=by
 rw [yc] at h
 obtain ⟨ys,hel,h⟩:=h
 split at h
 ·rename_i hok
  unfold zEA at h
  split at h
  ·rename_i id ver lo n
   split at h
   ·cases h
   ·rename_i hk0
    rw [yc] at h
    obtain ⟨ob,hob,h⟩:=h
    cases ob with
    | tok _ _ => simp [zjp] at h
    | mp _ => simp [zjp] at h
    | cells ver' sz' es =>
      simp only [zjp] at h
      split at h
      ·rename_i hc
       obtain ⟨rfl,rfl,hle⟩:=hc
       injection h with h
       subst h
       have hown:=zfP hvx hob
       obtain ⟨b0,c0,e0,hc0,hl0,hl1⟩:=hown
       obtain ⟨a',c,news,ex,hlay,hat,hnone⟩:=zg6 R0 hvy hel hok
       have h1news:=zrV h0 hlay
       have hes : es ≠ []:=fun h => by
        rw [h,List.length_nil] at hle
        omega
       have hlen0 : es.length ≠ 0:=fun h => hes (ya h)
       obtain ⟨hb1,hb2,_⟩:=hl1 hlen0
       have hb:=hb2 (by omega)
       subst hb
       have hk : min ys.length n ≤ ys.length:=Nat.min_le_left _ _
       have hlay':=zAB hlay hk
       have htl : (ys.take (min ys.length n)).length = min ys.length n:=by simp
       obtain ⟨arr,ty,hh,hfit,H,R1⟩:=zAx (lo:=lo) R0 hob hes hlay' (fun v hv => h1news v (yu hv)) h0 (by rw [htl]; exact hle)
       rw [htl] at H R1
       obtain ⟨ad,rfl⟩ : ∃ ad,a' = some ad:=by
        cases a' with
        | none => have:=hnone rfl; omega
        | some ad => exact ⟨ad,rfl⟩
       have hnl : (news.take (min ys.length n * sz')).length = min ys.length n * sz':=by rw [hlay'.1,htl]
       have hload : (loadCells ad (min ys.length n * sz')).run P w = .ok (news.take (min ys.length n * sz')).toArray w:=by
        have:=run_loadCells_list (P:=P) w ad (news.take (min ys.length n * sz')) (fun j v hj => by
         rw [yd] at hj
         split at hj
         ·exact hat ad rfl j v hj
         ·cases hj)
        rwa [hnl] at this
       have hst:=run_storeCells_at P (g.ρ id) (lo * sz') ty (news.take (min ys.length n * sz')) 0 arr w hh (by simpa using hfit) (fun v hv => h1news v (yu hv))
       simp only [yI] at hst
       have hrun : (execOp a.eval o).run P w = .ok (.value (goInt (min ys.length n : Nat))) (w.setRow (g.ρ id) (zcO arr (lo * sz') (news.take (min ys.length n * sz')))):=by
        unfold zhI at hs
        cases hq : P.info? e with
        | none => simp [hq] at hs
        | some inf =>
          have hsz : inf.size = sz':=by simpa [hq] using hs
          have hmin : Nat.min ys.length n = min ys.length n:=rfl
          unfold execOp
          simp only [ho,resolve,hcal,hargs,htys,invoke,builtin,Sem.run_bind,Sem.run_pure,Result.andThen_ok,yx,yh,yz,e0,ex]
          simp [Builtin.copy_,run_underlying ht,Builtin.lenOf,Builtin.firstCells,sizeOf,typeInfo,hq,hsz,hmin,hload,hst,zcO]
       refine zaX (r1:=r.setOb id _) F hd H R1 L.set rfl rfl hrun ?_ kk
       exact zt rfl
      ·cases h
  ·cases h
 ·cases h
end
end Go.A
namespace Go.A
section
variable {P : Program} {κ : List Tmp} {loc : List (Option Tmp)} {nt : Nat} {g : G} {w : World} {r r' : R} {a : Act} {o : Go.Oper} {d : D} {next : Act → World → Prop} {Q : Exit → Act → World → Prop}
theorem run_checkKey {b : Bool} {t : TypeId} {k : IntKind} {v : Value} (h : P.underlying t = some (.int k)) : (Instr.checkKey b 10000 t v).run P w = .ok () w:=by
 show (Instr.checkKey b (9999 + 1) t v).run P w = _
 unfold Instr.checkKey
 rw [Sem.run_bind,run_underlying h]
 cases v <;> rfl
theorem zeY {σ : zd} {k : Int} : ∀ {es : List (Int × V)} {zbl : List MapEntry} {i : Nat},zpX g w σ es zbl → zif k es = none → Instr.findNow (.int .i64) (.int .i64 k) zbl i = some none
 | [],zbl,i,hm,_ => by
   have : zbl = []:=hm
   subst this
   rfl
 | x :: es,zbl,i,hm,h => by
   obtain ⟨e,rest,rfl,h1,_,h3⟩:=hm
   simp only [zif] at h
   split at h
   ·cases h
   ·rename_i hne
    unfold Instr.findNow
    have hne' : ¬ (k = x.1):=fun e => hne e.symm
    simp only [h1,Instr.sameNow,if_pos]
    have : (k == x.1) = false:=by simpa using hne'
    rw [this]
    exact zeY h3 h
theorem zeT {σ : zd} {k : Int} : ∀ {es : List (Int × V)} {zbl : List MapEntry} {i : Nat} {v : V},zpX g w σ es zbl → zif k es = some v →
  ∃ j e,Instr.findNow (.int .i64) (.int .i64 k) zbl i = some (some (i + j,e.val)) ∧ zbl[j]? = some e ∧ e.key = .int .i64 k ∧ zf g w σ v e.val ∧
    ∀ {g' : G} {w' : World} {σ' : zd} {v' : V} {u' : Value},Ext g w σ g' w' σ' → zf g' w' σ' v' u' → zpX g' w' σ' (zl1 k v' es) (zbl.modify j fun e => { e with key:=.int .i64 k,val:=u' })
 | [],_,_,_,_,h => by simp [zif] at h
 | x :: es,zbl,i,v,hm,h => by
   obtain ⟨e,rest,rfl,h1,h2,h3⟩:=hm
   simp only [zif] at h
   split at h
   ·rename_i hk
    injection h with h
    subst h
    refine ⟨0,e,?_,by simp,by rw [h1,hk],h2,fun H hv => ?_⟩
    ·unfold Instr.findNow
     simp [h1,Instr.sameNow,hk]
    ·simp only [zl1,if_pos hk,List.modify_zero_cons]
     exact ⟨_,_,rfl,rfl,hv,H.zpX h3⟩
   ·rename_i hne
    obtain ⟨j,e',h4,h5,h6,h7,h8⟩:=zeT (i:=i + 1) h3 h
    refine ⟨j + 1,e',?_,by simpa using h5,h6,h7,fun H hv => ?_⟩
    ·unfold Instr.findNow
     have : (k == x.1) = false:=by simpa using fun e : k = x.1 => hne e.symm
     simp only [h1,Instr.sameNow,if_pos,this]
     rw [h4,show i + 1 + j = i + (j + 1) from by omega]
    ·simp only [zl1,if_neg hne,List.modify_succ_cons]
     exact ⟨_,_,rfl,h1,H.zf _ _ h2,h8 H hv⟩
theorem zvE {σ : zd} {k : Int} : ∀ {es : List (Int × V)} {zbl : List MapEntry},zpX g w σ es zbl → zif k es = none → ∀ {g' : G} {w' : World} {σ' : zd} {v' : V} {e' : MapEntry},Ext g w σ g' w' σ' → e'.key = .int .i64 k → zf g' w' σ' v' e'.val → zpX g' w' σ' (zl1 k v' es) (zbl ++ [e'])
 | [],zbl,hm,_,_,_,_,_,e',H,hk,hv => by
   have : zbl = []:=hm
   subst this
   exact ⟨e',[],rfl,hk,hv,rfl⟩
 | x :: es,zbl,hm,h,_,_,_,_,e',H,hk,hv => by
   obtain ⟨e,rest,rfl,h1,h2,h3⟩:=hm
   simp only [zif] at h
   split at h
   ·cases h
   ·rename_i hne
    simp only [zl1,if_neg hne]
    exact ⟨e,rest ++ [e'],rfl,h1,H.zf _ _ h2,zvE h3 h H hk hv⟩
theorem zjO {k : Int} : ∀ {es : List (Int × V)},zif k es = none ↔ ∀ e ∈ es,e.1 ≠ k
 | [] => by simp [zif]
 | e :: es => by
   simp only [zif]
   split
   ·rename_i h
    simp [h]
   ·rename_i h
    rw [zjO (es:=es)]
    simp [h]
theorem zpB {k : Int} {v : V} : ∀ {es : List (Int × V)},(es.map (·.1)).Nodup → (zif k es = some v ↔ (k,v) ∈ es)
 | [],_ => by simp [zif]
 | e :: es,hn => by
   simp only [yh,yP] at hn
   simp only [zif]
   split
   ·rename_i h
    subst h
    constructor
    ·intro h; injection h with h; subst h; simp
    ·intro h
     rcases yT.1 h with h | h
     ·rw [← h]
     ·exact absurd (yC.2 ⟨_,h,rfl⟩) hn.1
   ·rename_i h
    rw [zpB hn.2]
    constructor
    ·exact fun h => yv _ h
    ·intro h'
     rcases yT.1 h' with h' | h'
     ·exact absurd (by rw [← h']) h
     ·exact h'
theorem zoD {k : Int} {es es' : List (Int × V)} (hn : (es'.map (·.1)).Nodup) (h : es'.Perm es) : zif k es' = zif k es:=by
 have hn' : (es.map (·.1)).Nodup:=(h.map _).nodup_iff.1 hn
 cases hg : zif k es' with
 | none =>
   refine (zjO.2 fun e he => zjO.1 hg e (h.mem_iff.2 he)).symm
 | some v => exact ((zpB hn').2 (h.mem_iff.1 ((zpB hn).1 hg))).symm
theorem zia {k : Int} {v : V} : ∀ {es : List (Int × V)},zif k es = none → zl1 k v es = es ++ [(k,v)]
 | [],_ => rfl
 | e :: es,h => by
   simp only [zif] at h
   split at h
   ·cases h
   ·rename_i hne
    simp only [zl1,if_neg hne,zia h,yO]
theorem zsI {k : Int} {v v0 : V} : ∀ {es : List (Int × V)},zif k es = some v0 → (zl1 k v es).map (·.1) = es.map (·.1)
 | [],h => by simp [zif] at h
 | e :: es,h => by
   simp only [zif] at h
   split at h
   ·rename_i hk
    simp [zl1,hk]
   ·rename_i hne
    simp only [zl1,if_neg hne,yh,zsI h]
theorem zpa {k : Int} {v v0 : V} : ∀ {es : List (Int × V)},(es.map (·.1)).Nodup → zif k es = some v0 → ((k,v0) :: zl1 k v es).Perm ((k,v) :: es)
 | [],_,h => by simp [zif] at h
 | e :: es,hn,h => by
   simp only [yh,yP] at hn
   simp only [zif] at h
   split at h
   ·rename_i hk
    injection h with h
    simp only [zl1,if_pos hk]
    have : e = (k,v0):=by rw [← hk,← h]
    rw [this]
    exact List.Perm.swap _ _ _
   ·rename_i hne
    simp only [zl1,if_neg hne]
    exact (List.Perm.swap _ _ _).trans (((zpa hn.2 h).cons e).trans (List.Perm.swap _ _ _))
theorem zzz {k : Int} {v : V} {es es' : List (Int × V)} (hn : (es'.map (·.1)).Nodup) (h : es'.Perm es) : (zl1 k v es').Perm (zl1 k v es):=by
 have hn' : (es.map (·.1)).Nodup:=(h.map _).nodup_iff.1 hn
 cases hg : zif k es' with
 | none =>
   rw [zia hg,zia (by rw [← zoD hn h]; exact hg)]
   exact h.append_right _
 | some v0 =>
   have h1:=zpa (v:=v) hn hg
   have h2:=zpa (v:=v) hn' (by rw [← zoD hn h]; exact hg)
   exact (List.perm_cons _).1 (h1.trans ((h.cons _).trans h2.symm))
theorem zqd {k : Int} {v : V} {es : List (Int × V)} (hn : (es.map (·.1)).Nodup) : ((zl1 k v es).map (·.1)).Nodup:=by
 cases hg : zif k es with
 | none =>
   rw [zia hg,yQ]
   refine yK.2 ⟨hn,by simp,fun a ha b hb => ?_⟩
   simp at hb
   subst hb
   obtain ⟨e,he,rfl⟩:=yC.1 ha
   exact zjO.1 hg e he
 | some v0 => rw [zsI hg]; exact hn
theorem zxJ {σ : zd} {id : Nat} {es : List (Int × V)} (h : (σ[id]?).bind Ob.entries = some es) : σ[id]? = some (.mp es):=by
 rw [yc] at h
 obtain ⟨ob,h1,h2⟩:=h
 unfold Ob.entries at h2
 split at h2
 ·injection h2 with h2; subst h2; exact h1
 ·cases h2
theorem zBK (R0 : Rel g w r.st) {t key elem : TypeId} {x k : Operand} {ok : Bool} {z : Value} {i : TypeInfo} {zero : V} (ho : o.op = .lookup t x k ok) (ht : P.underlying t = some (.map key elem)) (hk : P.underlying key = some (.int .i64)) (hi : P.info? elem = some i) (hz : i.zero = some z) (hzero : zoR z zero = true)
  {vx vk v : V} (hx : zf g w r.st vx (a.eval x)) (hvk : zf g w r.st vk (a.eval k)) (h : alk r.st zero ok vx vk = some v) :
  ∃ u,(execOp a.eval o).run P w = .ok (.value u) w ∧ zf g w r.st v u:=by
 have miss : ∀ u,(∀ b,Instr.checkKey b 10000 key (a.eval k) = Instr.checkKey b 10000 key (a.eval k)) → (Instr.lookup t (a.eval x) (a.eval k) ok).run P w = .ok u w → (execOp a.eval o).run P w = .ok (.value u) w:=fun u _ hr => by
  unfold execOp
  simp only [ho,Sem.run_bind,hr,Result.andThen_ok,Sem.run_pure]
 have htrue : zf g w r.st (ziY true) (.bool true):=zt rfl
 have hfalse : zf g w r.st (ziY false) (.bool false):=zt rfl
 have pair : ∀ {v1 : V} {u1 : Value} {b : Bool},zf g w r.st v1 u1 → zf g w r.st (.tup [v1,ziY b]) (.tuple #[u1,.bool b]):=fun {v1 u1 b} h1 => by
  simp only [zf]
  exact ⟨_,rfl,by simp only [zz]; exact ⟨_,_,rfl,h1,_,_,rfl,zt rfl,rfl⟩⟩
 unfold alk at h
 split at h
 ·rename_i id kk
  obtain ⟨ek,_⟩:=zA hvk
  rw [yb] at h
  obtain ⟨es,h1,rfl⟩:=h
  have hid:=zxJ h1
  obtain ⟨_,_,zbl,clock,hh,⟨es',hperm,hnd,hm⟩,_,_⟩:=R0.ob id _ hid
  simp only [zf,zw] at hx
  have ex:=hx.2
  rw [← zoD hnd hperm]
  cases hg : zif kk es' with
  | none =>
    have hf:=zeY (i:=0) hm hg
    cases ok
    ·refine ⟨z,miss z (fun _ => rfl) ?_,zft hzero⟩
     rw [ex,ek]
     simp [Instr.lookup,run_underlying ht,MapKept.run_getObj_map hh,run_checkKey (P:=P) (w:=w) hk,Instr.findKey,run_underlying hk,hf,zc8 (w:=w) hi hz]
    ·refine ⟨.tuple #[z,.bool false],miss _ (fun _ => rfl) ?_,pair (zft hzero)⟩
     rw [ex,ek]
     simp [Instr.lookup,run_underlying ht,MapKept.run_getObj_map hh,run_checkKey (P:=P) (w:=w) hk,Instr.findKey,run_underlying hk,hf,zc8 (w:=w) hi hz]
  | some v0 =>
    obtain ⟨j,e,hf,_,_,hv,_⟩:=zeT (i:=0) hm hg
    cases ok
    ·refine ⟨e.val,miss _ (fun _ => rfl) ?_,hv⟩
     rw [ex,ek]
     simp [Instr.lookup,run_underlying ht,MapKept.run_getObj_map hh,run_checkKey (P:=P) (w:=w) hk,Instr.findKey,run_underlying hk,hf]
    ·refine ⟨.tuple #[e.val,.bool true],miss _ (fun _ => rfl) ?_,pair hv⟩
     rw [ex,ek]
     simp [Instr.lookup,run_underlying ht,MapKept.run_getObj_map hh,run_checkKey (P:=P) (w:=w) hk,Instr.findKey,run_underlying hk,hf]
 ·obtain ⟨ek,_⟩:=zA hvk
  obtain ⟨ex,_⟩:=zA hx
  injection h with h
  subst h
  cases ok
  ·refine ⟨z,miss z (fun _ => rfl) ?_,zft hzero⟩
   rw [ex,ek]
   simp [Instr.lookup,run_underlying ht,run_checkKey (P:=P) (w:=w) hk,Instr.findKey,run_underlying hk,Instr.findNow,zc8 (w:=w) hi hz]
  ·refine ⟨.tuple #[z,.bool false],miss _ (fun _ => rfl) ?_,pair (zft hzero)⟩
   rw [ex,ek]
   simp [Instr.lookup,run_underlying ht,run_checkKey (P:=P) (w:=w) hk,Instr.findKey,run_underlying hk,Instr.findNow,zc8 (w:=w) hi hz]
 ·cases h
theorem zBF (R0 : Rel g w r.st) (L : Low r.base r.lim r.st) (F : Fr κ loc nt g w r a) {t key elem : TypeId} {x k y : Operand} (ho : o.op = .mapUpdate t x k y ∨ o.op = .insert t x k y) (hd : okD κ nt o.dst d = true) (hno : d = .no) (ht : P.underlying t = some (.map key elem)) (hk : P.underlying key = some (.int .i64))
  {vx vk vy : V} (hx : zf g w r.st vx (a.eval x)) (hvk : zf g w r.st vk (a.eval k)) (hy : zf g w r.st vy (a.eval y)) {r1 : R} (h : amu r vy vx vk = some r1) (kk : znX κ (zaS o.dst d :: loc) nt g w r (r1.put d vun) (a.put o.dst) next) : o.wp P a w next Q:=by
 unfold amu at h
 split at h
 ·rename_i id n
  obtain ⟨ek,_⟩:=zA hvk
  ·rw [yb] at h
   obtain ⟨es,h1,rfl⟩:=h
   have hid:=zxJ h1
   obtain ⟨_,_,zbl,clock,hh,⟨es',hperm,hnd,hm⟩,hb1,hb2⟩:=R0.ob id _ hid
   simp only [zf,zw] at hx
   have ex:=hx.2
   have hpp:=zzz (k:=n) (v:=vy) hnd hperm
   have hlow : Low r.base r.lim (r.setOb id (.mp (zl1 n vy es))).st:=L.set
   cases hg : zif n es' with
   | none =>
     have hf:=zeY (i:=0) hm hg
     obtain ⟨H,R1⟩:=map_set (clock':=clock + 1) (es':=zl1 n vy es) (ents':=zbl.push { key:=.int .i64 n,val:=a.eval y,born:=clock }) R0 hid hh fun H => by
      rw [Array.toList_push]
      refine ⟨⟨_,hpp,zqd hnd,zvE hm hg H rfl (H.zf _ _ hy)⟩,?_,?_⟩
      ·rw [yQ]
       refine yK.2 ⟨hb1,by simp,fun a ha b hb => ?_⟩
       simp at hb
       subst hb
       obtain ⟨e,he,rfl⟩:=yC.1 ha
       have:=hb2 e he
       omega
      ·intro e he
       rcases List.mem_append.1 he with he | he
       ·have:=hb2 e he
        omega
       ·simp at he
        subst he
        simp
     refine zrM (r1:=r.setOb id (.mp (zl1 n vy es))) F hd hno H R1 hlow rfl rfl ?_ kk
     rcases ho with ho | ho <;> (unfold execOp; simp only [ho,ex,ek]; simp [Instr.mapUpdate,run_underlying ht,MapKept.run_getObj_map hh,run_checkKey (P:=P) (w:=w) hk,Instr.findKey,run_underlying hk,hf,MapKept.run_setObj_map _ hh])
   | some v0 =>
     obtain ⟨j,e,hf,hj,hkey,_,hnew⟩:=zeT (i:=0) hm hg
     obtain ⟨H,R1⟩:=map_set (clock':=clock) (es':=zl1 n vy es) (ents':=zbl.modify j fun e => { e with key:=.int .i64 n,val:=a.eval y }) R0 hid hh fun H => by
      rw [Array.toList_modify]
      refine ⟨⟨_,hpp,zqd hnd,hnew H (H.zf _ _ hy)⟩,?_,?_⟩
      ·have e1 : ((zbl.toList.modify j fun e => { e with key:=.int .i64 n,val:=a.eval y }).map (·.born)) = zbl.toList.map (·.born):=by
        refine yr fun i => ?_
        rw [yg,yg,yG]
        cases zbl.toList[i]? <;> simp
        split <;> rfl
       rw [e1]
       exact hb1
      ·intro e he
       obtain ⟨i,hi⟩:=ym.1 he
       rw [yG] at hi
       cases hq : zbl.toList[i]? with
       | none => rw [hq] at hi; simp at hi
       | some e0 =>
         have:=hb2 e0 (yw hq)
         rw [hq] at hi
         simp at hi
         rw [← hi]
         split <;> exact this
     refine zrM (r1:=r.setOb id (.mp (zl1 n vy es))) F hd hno H R1 hlow rfl rfl ?_ kk
     have hj' : zbl[j]? = some e:=by simpa using hj
     rcases ho with ho | ho <;> (unfold execOp; simp only [ho,ex,ek]; simp [Instr.mapUpdate,run_underlying ht,MapKept.run_getObj_map hh,run_checkKey (P:=P) (w:=w) hk,Instr.findKey,run_underlying hk,hf,hj',hkey,Instr.keyThatStays,Instr.sameBits,MapKept.run_setObj_map _ hh])
 ·cases h
def zlM (xs ys : Array Value) (i : Nat) : Bool:=match xs[i]?,ys[i]? with
 | some (.int _ a),some (.int _ b) => a == b
 | _,_ => false
def zsb (xs ys : Array Value) (i : Nat) : Prop:=∃ k a b,xs[i]? = some (.int k a) ∧ ys[i]? = some (.int k b)
def zkZ (P : Program) (t : TypeId) : Bool:=match P.underlying t with
 | some (.int _) => true
 | _ => false
theorem zjl {t : TypeId} (h : zkZ P t = true) : ∃ k,P.underlying t = some (.int k):=by
 unfold zkZ at h
 split at h
 ·exact ⟨_,by assumption⟩
 ·cases h
theorem zhj {t : TypeId} (h : zkZ P t = true) {xs : Array Value} {i : Nat} {v : Value} (hv : xs[i]? = some v) : (part t xs i).run P w = .ok v w:=by
 obtain ⟨k,hk⟩:=zjl h
 have ha : zjL P t = some false:=by unfold zjL; rw [hk]; rfl
 unfold part
 simp only [Sem.run_bind,zhZ (w:=w) ha,Result.andThen_ok,Bool.false_eq_true,if_false,hv]
 rfl
theorem zpp {e : TypeId} (he : zkZ P e = true) (d : Nat) (xs ys : Array Value) : ∀ (l : List Nat),(∀ i ∈ l,zsb xs ys i) → (Op.eqItems (d + 1) e 1 xs ys l).run P w = .ok (l.all (zlM xs ys)) w
 | [],_ => by simp [Op.eqItems]
 | i :: l,h => by
   obtain ⟨k,a,b,h1,h2⟩:=h i (by simp)
   obtain ⟨k',hk'⟩:=zjl he
   have ih:=zpp he d xs ys l fun j hj => h j (yv _ hj)
   simp only [Op.eqItems,yU,Sem.run_bind,zhj he h1,zhj he h2,Result.andThen_ok,run_equalIn_int w d e k k' a b hk',yD]
   have hv : zlM xs ys i = (a == b):=by unfold zlM; rw [h1,h2]
   rw [hv]
   cases hab : (a == b) with
   | false => simp
   | true => simpa using ih
theorem znt (d : Nat) (xs ys : Array Value) : ∀ (fs : List Field), (∀ f ∈ fs, f.name ≠ "_" ∧ zkZ P f.type = true ∧ zsb xs ys f.offset) → (Op.eqFields (d + 1) xs ys fs).run P w = .ok ((fs.map (·.offset)).all (zlM xs ys)) w
 | [],_ => by simp [Op.eqFields]
 | f :: fs,h => by
   obtain ⟨hn,he,k,a,b,h1,h2⟩:=h f (by simp)
   obtain ⟨k',hk'⟩:=zjl he
   have ih:=znt d xs ys fs fun j hj => h j (yv _ hj)
   simp only [Op.eqFields,if_pos hn,Sem.run_bind,zhj he h1,zhj he h2,Result.andThen_ok,run_equalIn_int w d f.type k k' a b hk',yh,yD]
   have hv : zlM xs ys f.offset = (a == b):=by unfold zlM; rw [h1,h2]
   rw [hv]
   cases hab : (a == b) with
   | false => simp
   | true => simpa using ih
def zvs (P : Program) (t : TypeId) : Option Nat:=match P.underlying t with
 | some (.array n e) => if zkZ P e && (P.cellsOf e == 1) && (P.info? e).isSome then some n else none
 | some (.struct fs) => if !P.stoodInHeld t && fs.toList.all (fun f => decide (f.name ≠ "_") && zkZ P f.type) && (fs.toList.map (·.offset) == yR fs.toList.length) && (P.fieldsOf t).toList.length == fs.toList.length then some fs.toList.length else none
 | _ => none
theorem zBD {t : TypeId} {n : Nat} (h : zvs P t = some n) {xs ys : Array Value} (hb : ∀ i,i < n → zsb xs ys i) : (Op.equalIn 10000 t (.agg xs) (.agg ys)).run P w = .ok ((yR n).all (zlM xs ys)) w:=by
 unfold zvs at h
 split at h
 ·rename_i n' e hu
  split at h
  ·rename_i hc
   injection h with h
   subst h
   simp only [ye,beq_iff_eq] at hc
   obtain ⟨⟨h1,h2⟩,h3⟩:=hc
   obtain ⟨i,hi⟩:=Option.isSome_iff_exists.1 h3
   rw [run_equalIn_array w 9999 xs ys hu hi,h2]
   exact zpp h1 9998 xs ys _ fun j hj => hb j (by simpa using hj)
  ·cases h
 ·rename_i fs hu
  split at h
  ·rename_i hc
   injection h with h
   subst h
   simp only [ye,Bool.not_eq_true',beq_iff_eq] at hc
   obtain ⟨⟨⟨h1,h2⟩,h3⟩,h4⟩:=hc
   have hf : P.fieldsOf t = fs:=by simp [Program.fieldsOf,hu]
   rw [run_equalIn_struct w 9999 t xs ys (by rw [hf]; exact hu) h1,hf]
   rw [znt 9998 xs ys fs.toList fun f hf' => ?_,h3]
   have h5:=List.all_eq_true.1 h2 f hf'
   simp only [ye,decide_eq_true_eq] at h5
   have h6 : f.offset ∈ fs.toList.map (·.offset):=yC.2 ⟨f,hf',rfl⟩
   rw [h3] at h6
   exact ⟨h5.1,h5.2,hb _ (by simpa using h6)⟩
  ·cases h
 ·cases h
theorem znm {σ : zd} : ∀ {cs ds : List C} {us vs : List Value} {b : Bool},zjV cs ds = some b → zv g w σ cs us → zv g w σ ds vs → us.length = cs.length ∧ vs.length = cs.length ∧ (∀ i,i < cs.length → zsb us.toArray vs.toArray i) ∧ b = (yR cs.length).all (zlM us.toArray vs.toArray)
 | [],[],us,vs,b,h,hu,hv => by
   have e1 : us = []:=by simpa only [zv] using hu
   have e2 : vs = []:=by simpa only [zv] using hv
   subst e1 e2
   simp only [zjV,Option.some.injEq] at h
   subst h
   exact ⟨rfl,rfl,fun i hi => by simp at hi,by simp⟩
 | c :: cs,d :: ds,us,vs,b,h,hu,hv => by
   unfold zjV at h
   split at h
   ·rename_i heq _; cases heq
   ·rename_i k a xs k' b' ys heq1 heq2
    injection heq1 with e1 e2
    injection heq2 with e3 e4
    subst e1 e2 e3 e4
    split at h
    ·rename_i hk
     subst hk
     rw [yb] at h
     obtain ⟨b1,h1,h2⟩:=h
     simp only [zv] at hu hv
     obtain ⟨u,us',rfl,hu1,hu2⟩:=hu
     obtain ⟨v,vs',rfl,hv1,hv2⟩:=hv
     obtain ⟨q1,q2,q3,q4⟩:=znm h1 hu2 hv2
     simp only [zw,rep] at hu1 hv1
     obtain ⟨rfl,_⟩:=hu1
     obtain ⟨rfl,_⟩:=hv1
     have hsucc : ∀ i,zlM (Value.int k a :: us').toArray (Value.int k b' :: vs').toArray (i + 1) = zlM us'.toArray vs'.toArray i:=fun i => by simp [zlM]
     refine ⟨by simp [q1],by simp [q2],fun i hi => ?_,?_⟩
     ·cases i with
      | zero => exact ⟨k,a,b',by simp,by simp⟩
      | succ i =>
        obtain ⟨k2,a2,b2,r1,r2⟩:=q3 i (by simpa using hi)
        exact ⟨k2,a2,b2,by simpa using r1,by simpa using r2⟩
     ·rw [← h2,q4,List.length_cons,List.range_succ_eq_map,yD,List.all_map]
      have h0 : zlM (Value.int k a :: us').toArray (Value.int k b' :: vs').toArray 0 = decide (a = b'):=by simp [zlM]; rfl
      rw [h0]
      congr 2
      funext i
      exact (hsucc i).symm
    ·cases h
   ·cases h
 | [],d :: ds,us,vs,b,h,_,_ => by simp [zjV] at h
 | c :: cs,[],us,vs,b,h,_,_ => by
   unfold zjV at h
   split at h <;> simp_all
theorem zAc {op : BinOp} {t yt : TypeId} {x y : Operand} {neg : Bool} {n : Nat} (ho : o.op = .binOp op t x y yt) (hop : (op = .eql ∧ neg = false) ∨ (op = .neq ∧ neg = true)) (hf : zvs P t = some n) (hg : P.eqGuardType P.depth t = false)
  {vx vy v : V} (hx : zf g w r.st vx (a.eval x)) (hy : zf g w r.st vy (a.eval y)) (h : zE5 n neg vx vy = some v) :
  ∃ u,(execOp a.eval o).run P w = .ok (.value u) w ∧ zf g w r.st v u:=by
 unfold zE5 at h
 split at h
 ·rename_i cs ds
  split at h
  ·rename_i hn
   rw [yb] at h
   obtain ⟨b,h1,h2⟩:=h
   subst h2
   simp only [zf] at hx hy
   obtain ⟨us,hux,hcx⟩:=hx
   obtain ⟨vs,huy,hcy⟩:=hy
   obtain ⟨q1,q2,q3,q4⟩:=znm h1 hcx hcy
   rw [hn] at q3 q4
   have hrun:=zBD (w:=w) hf (xs:=us) (ys:=vs) (by simpa using q3)
   have hguard:=run_eqGuard_agg (P:=P) w op t x y us vs hg
   have q4' : b = (yR n).all (zlM us vs):=by simpa using q4
   rcases hop with ⟨rfl,rfl⟩ | ⟨rfl,rfl⟩
   ·refine ⟨.bool b,?_,zt (v:=.bool b) rfl⟩
    unfold execOp
    simp only [ho,hux,huy]
    simp [hguard,run_eql_struct,hrun,q4']
   ·refine ⟨.bool (!b),?_,zt (v:=.bool (!b)) rfl⟩
    unfold execOp
    simp only [ho,hux,huy]
    simp [hguard,run_neq_struct,hrun,q4']
  ·cases h
 ·cases h
theorem zp5 {t e : TypeId} (ht : P.underlying t = some (.pointer e)) (p : Option Addr) : (Op.equal t (.pointer p) (.pointer none)).run P w = .ok p.isNone w:=by
 unfold Op.equal Op.maxDepth Op.equalIn
 cases p <;> simp [run_underlying ht]
theorem zw8 {op : BinOp} {t e yt : TypeId} {x : Operand} {neg : Bool} (ho : o.op = .binOp op t x (.const (.pointer none)) yt) (hop : (op = .eql ∧ neg = false) ∨ (op = .neq ∧ neg = true)) (ht : P.underlying t = some (.pointer e))
  {vx v : V} (hx : zf g w r.st vx (a.eval x)) (h : zBp neg vx = some v) :
  ∃ u,(execOp a.eval o).run P w = .ok (.value u) w ∧ zf g w r.st v u:=by
 have key : ∀ p : Option Addr,a.eval x = .pointer p → ∃ u,(execOp a.eval o).run P w = .ok (.value u) w ∧ zf g w r.st (ziY (if neg then !p.isNone else p.isNone)) u:=fun p ex => by
  have hr:=zp5 (P:=P) (w:=w) ht p
  have ec : a.eval (.const (.pointer none)) = .pointer none:=rfl
  rcases hop with ⟨rfl,rfl⟩ | ⟨rfl,rfl⟩
  ·refine ⟨.bool p.isNone,?_,zt (v:=.bool p.isNone) rfl⟩
   unfold execOp
   simp only [ho,ex]
   simp [eqGuard,binOp,ec,hr]
  ·refine ⟨.bool (!p.isNone),?_,zt (v:=.bool (!p.isNone)) rfl⟩
   unfold execOp
   simp only [ho,ex]
   simp [eqGuard,binOp,ec,hr]
 unfold zBp at h
 split at h
 ·injection h with h
  subst h
  simp only [zf,zw] at hx
  obtain ⟨_,_,_,_,_,_,ad,e⟩:=hx
  have:=key _ e
  cases neg <;> exact this
 ·injection h with h
  subst h
  simp only [zf,zw] at hx
  obtain ⟨_,_,e,_⟩:=hx
  have:=key _ e
  cases neg <;> exact this
 ·injection h with h
  subst h
  have:=key none (zA hx).1
  cases neg <;> exact this
 ·cases h
theorem zyk {op : BinOp} {t yt : TypeId} {x y : Operand} {neg : Bool} (ho : o.op = .binOp op t x y yt) (hop : (op = .eql ∧ neg = false) ∨ (op = .neq ∧ neg = true)) (ht : P.underlying t = some .bool)
  {vx vy v : V} (hx : zf g w r.st vx (a.eval x)) (hy : zf g w r.st vy (a.eval y)) (h : zEX neg vx vy = some v) :
  ∃ u,(execOp a.eval o).run P w = .ok (.value u) w ∧ zf g w r.st v u:=by
 unfold zEX at h
 split at h
 ·rename_i p q
  obtain ⟨ex,_⟩:=zA hx
  obtain ⟨ey,_⟩:=zA hy
  injection h with h
  subst h
  have hr:=run_equal_bool (P:=P) w t p q ht
  rcases hop with ⟨rfl,rfl⟩ | ⟨rfl,rfl⟩
  ·refine ⟨.bool (p == q),?_,zt (v:=.bool (p == q)) rfl⟩
   unfold execOp
   simp only [ho,ex,ey]
   simp [eqGuard,binOp,hr]
  ·refine ⟨.bool (!(p == q)),?_,zt (v:=.bool (!(p == q))) rfl⟩
   unfold execOp
   simp only [ho,ex,ey]
   simp [eqGuard,binOp,hr]
 ·cases h
end
end Go.A
namespace Go.A
def Ow.cut (n : Nat) : Ow → Ow
 | .no => .no
 | .ob id => if id < n then .ob id else .no
 | .tk t k => if t < n then .tk t k else .no
theorem Ow.cut_cut {n m : Nat} (h : n ≤ m) (o : Ow) (ho : o.cut n = o) : o.cut m = o:=by
 cases o with
 | no => rfl
 | ob id =>
   simp only [Ow.cut] at ho ⊢
   split at ho
   ·rw [if_pos (by omega)]
   ·cases ho
 | tk t k =>
   simp only [Ow.cut] at ho ⊢
   split at ho
   ·rw [if_pos (by omega)]
   ·cases ho
theorem Ow.cut_idem (n : Nat) (o : Ow) : (o.cut n).cut n = o.cut n:=by
 cases o with
 | no => rfl
 | ob id => by_cases h : id < n <;> simp [Ow.cut,h]
 | tk t k => by_cases h : t < n <;> simp [Ow.cut,h]
def G.drop (g : G) (n : Nat) (w : World) : G :=
 { g with
   ow:=fun b => (g.ow b).cut n
   N:=fun b o => g.N b o ∨ (b < w.heap.size ∧ ∃ id,n ≤ id ∧ g.ow b = .ob id) }
def Clean (g : G) (n : Nat) : Prop:=∀ b,(g.ow b).cut n = g.ow b
section
variable {g : G} {w : World} {σ : zd} {n : Nat}
theorem ziB {α : Type} {l : List α} {i n : Nat} (h : i < n) : (l.take n)[i]? = l[i]?:=by rw [yd,if_pos h]
theorem znf {id : Nat} (h : id < n) : shapeOf (σ.take n) id = shapeOf σ id:=by unfold shapeOf; rw [ziB h]
theorem zxR {t k : Nat} (h : t < n) : zlw (σ.take n) t k = zlw σ t k:=by unfold zlw; rw [ziB h]
theorem zvt {t : Nat} (h : t < n) : znV (σ.take n) t = znV σ t:=by unfold znV; rw [ziB h]
theorem zgE : zgN w w g.N (g.drop n w).N:=fun _ _ h => ⟨.inl h,rfl⟩
mutual
theorem zoU : ∀ (c : C) (u : Value),zw g w σ c u → c.lt n = true → zw (g.drop n w) w (σ.take n) c u
 | .f x,u,h,_ => by
   simp only [zw] at h ⊢
   exact zb6 zgE x u h
 | .ap t k xs,u,h,hl => by
   have ht : t < n:=by simpa [C.lt] using hl
   simp only [zw] at h ⊢
   obtain ⟨h1,m,h2,h3,h4,sz,h5,h6⟩:=h
   exact ⟨zb6 zgE _ u h1,m,by rw [zxR ht]; exact h2,h3,h4,sz,by rw [zvt ht]; exact h5,h6⟩
 | .ptr id ver i off,u,h,hl => by
   have ht : id < n:=by simpa [C.lt] using hl
   simp only [zw] at h ⊢
   rw [znf ht]
   exact h
 | .fp cs off,u,h,_ => by
   simp only [zw] at h ⊢
   obtain ⟨b,o,h1,h2⟩:=h
   exact ⟨b,o,h1,ze5 zgE cs b o h2⟩
 | .own id ver lo m,u,h,hl => by
   have ht : id < n:=by simpa [C.lt] using hl
   simp only [zw] at h ⊢
   rw [znf ht]
   exact h
 | .map id,u,h,hl => by
   have ht : id < n:=by simpa [C.lt] using hl
   simp only [zw] at h ⊢
   rw [ziB ht]
   exact h
 | .fn f a b,u,h,hl => by
   simp only [C.lt,ye] at hl
   simp only [zw] at h ⊢
   obtain ⟨fs,cs,h1,h2,h3⟩:=h
   exact ⟨fs,cs,h1,zj9 a _ h2 hl.1,zj9 b _ h3 hl.2⟩
 | .un,_,_,_ => by simp only [zw]
theorem zj9 : ∀ (cs : List C) (us : List Value),zv g w σ cs us → C.lts n cs = true → zv (g.drop n w) w (σ.take n) cs us
 | [],us,h,_ => by simpa only [zv] using h
 | c :: cs,us,h,hl => by
   simp only [C.lts,ye] at hl
   simp only [zv] at h ⊢
   obtain ⟨v,vs,h1,h2,h3⟩:=h
   exact ⟨v,vs,h1,zoU c v h2 hl.1,zj9 cs vs h3 hl.2⟩
end
mutual
theorem zje : ∀ (c : V) (u : Value),zf g w σ c u → c.lt n = true → zf (g.drop n w) w (σ.take n) c u
 | .one c,u,h,hl => by
   simp only [V.lt] at hl
   simp only [zf] at h ⊢
   exact zoU c u h hl
 | .agg cs,u,h,hl => by
   simp only [V.lt] at hl
   simp only [zf] at h ⊢
   obtain ⟨us,h1,h2⟩:=h
   exact ⟨us,h1,zj9 cs _ h2 hl⟩
 | .tup vs,u,h,hl => by
   simp only [V.lt] at hl
   simp only [zf] at h ⊢
   obtain ⟨us,h1,h2⟩:=h
   exact ⟨us,h1,zqM vs _ h2 hl⟩
theorem zqM : ∀ (vs : List V) (us : List Value),zz g w σ vs us → V.lts n vs = true → zz (g.drop n w) w (σ.take n) vs us
 | [],us,h,_ => by simpa only [zz] using h
 | c :: cs,us,h,hl => by
   simp only [V.lts,ye] at hl
   simp only [zz] at h ⊢
   obtain ⟨v,vs,h1,h2,h3⟩:=h
   exact ⟨v,vs,h1,zje c v h2 hl.1,zqM cs vs h3 hl.2⟩
end
theorem zDV {os : List Ob} (h : Obs.lt n os = true) : ∀ {i : Nat} {o : Ob},os[i]? = some o → o.lt n = true:=by
 induction os with
 | nil => intro i o h; simp at h
 | cons x xs ih =>
   simp only [Obs.lt,ye] at h
   intro i o hi
   cases i with
   | zero => simp at hi; subst hi; exact h.1
   | succ i => exact ih h.2 (by simpa using hi)
theorem ztj : ∀ {es : List (Int × V)} {zbl : List MapEntry},zpX g w σ es zbl → C.ltm n es = true → zpX (g.drop n w) w (σ.take n) es zbl
 | [],_,h,_ => h
 | x :: xs,_,h,hl => by
   simp only [C.ltm,ye] at hl
   obtain ⟨e,rest,h1,h2,h3,h4⟩:=h
   exact ⟨e,rest,h1,h2,zje _ _ h3 hl.1,ztj h4 hl.2⟩
theorem zuj : ∀ {es : List (Int × V)},C.ltm n es = true ↔ ∀ e ∈ es,e.2.lt n = true
 | [] => by simp [C.ltm]
 | e :: es => by simp [C.ltm,zuj (es:=es)]
theorem zv6 {es : List (Int × V)} {zbl : List MapEntry} {clock : Nat} (h : zli g w σ es zbl clock) (hl : C.ltm n es = true) : zli (g.drop n w) w (σ.take n) es zbl clock:=by
 have:=zn2 (g':=g.drop n w) (w':=w) (σ':=σ.take n) h id (fun _ => rfl) (fun es' hp h => by
  rw [yL]
  exact ztj h (zuj.2 fun e he => zuj.1 hl e (hp.mem_iff.1 he)))
 rwa [yL] at this
theorem zvQ (R : Rel g w σ) (hl : Obs.lt n (σ.take n) = true) : Rel (g.drop n w) w (σ.take n):=by
 refine ⟨fun b o h => h.elim (R.nb b o) fun h => h.1,fun id o ho => ?_⟩
 have hid : id < n:=by
  have:=zb ho
  rw [yl] at this
  omega
 have hlt:=zDV hl ho
 rw [ziB hid] at ho
 have hor:=R.ob id o ho
 have how : ∀ b i,g.ow b = .ob i → i < n → (g.drop n w).ow b = .ob i:=fun b i h hi => by simp [G.drop,Ow.cut,h,hi]
 have hno : ∀ b i,g.ow b = .ob i → i < n → (∀ o,¬ g.N b o) → ∀ o,¬ (g.drop n w).N b o:=fun b i h hi hN o hno => by
  rcases hno with hno | ⟨_,j,hj,hno⟩
  ·exact hN o hno
  ·rw [h] at hno; injection hno with hno; omega
 cases o with
 | cells ver sz es =>
   intro hne
   obtain ⟨h1,h2,arr,t,h3,h4,h5⟩:=hor hne
   refine ⟨how _ _ h1 hid,hno _ _ h1 hid h2,arr,t,h3,h4,fun i e hi => ⟨(h5 i e hi).1,fun j c hc => ?_⟩⟩
   obtain ⟨u,k1,k2,k3⟩:=(h5 i e hi).2 j c hc
   simp only [Ob.lt] at hlt
   exact ⟨u,k1,zoU c u k2 (zy0.1 (zve.1 hlt e (yw hi)) c (yw hc)),k3⟩
 | mp es =>
   obtain ⟨h1,h2,zbl,clock,h3,h4⟩:=hor
   exact ⟨how _ _ h1 hid,hno _ _ h1 hid h2,zbl,clock,h3,zv6 h4 (by simpa [Ob.lt] using hlt)⟩
 | tok sz fr =>
   intro k m hm
   rcases hor k m hm with h | ⟨b,o,c,arr,t,h1,h2,h3,h4,h5,h6,h7⟩
   ·exact .inl h
   ·refine .inr ⟨b,o,c,arr,t,h1,h2,h3,by simp [G.drop,Ow.cut,h4,hid],h5,h6,fun o' ho' => ?_⟩
    rcases ho' with ho' | ⟨_,j,_,ho'⟩
    ·exact h7 o' ho'
    ·rw [h4] at ho'; cases ho'
theorem zvv {g0 : G} {w0 : World} {σ0 : zd} (H : Ext g0 w0 σ0 g w σ) (hc : Clean g0 σ0.length) (hn : σ0.length ≤ n) : Ext g0 w0 σ0 (g.drop n w) w (σ.take n) where
 os:=H.os
 tape:=H.tape
 output:=H.output
 size:=H.size
 keeps:=H.keeps.trans zgE
 len:=by have:=H.len; rw [yl]; omega
 shape:=fun id ver sz len h => by
  have hid : id < n:=by obtain ⟨es,h1,_⟩:=zaL h; have:=zb h1; omega
  rw [znf hid]
  exact H.shape id ver sz len h
 map:=fun id es h => by
  have hid : id < n:=by have:=zb h; omega
  rw [ziB hid]
  exact H.map id es h
 tok:=fun t k m h => by
  have hid : t < n:=by obtain ⟨_,_,h1,_⟩:=zcS h; have:=zb h1; omega
  rw [zxR hid]
  exact H.tok t k m h
 tsz:=fun t sz h => by
  have hid : t < n:=by obtain ⟨_,h1⟩:=zet h; have:=zb h1; omega
  rw [zvt hid]
  exact H.tsz t sz h
 ow:=fun b hb => by
  show (g.ow b).cut n = _
  rw [H.ow b hb]
  exact Ow.cut_cut hn _ (hc b)
 new:=fun b o h hb ho => by
  rcases h with h | ⟨_,id,_,h⟩
  ·exact H.new b o h hb ho
  ·rw [H.ow b hb,ho] at h; cases h
 frame:=H.frame
def G.clean (g : G) (n : Nat) : G :=
 { g with ow:=fun b => (g.ow b).cut n }
theorem zfM (g : G) (n : Nat) : Clean (g.clean n) n:=fun b => Ow.cut_idem n _
mutual
theorem zpg {g' : G} (h1 : g'.ρ = g.ρ) (h2 : g'.tv = g.tv) (h3 : g'.N = g.N) : ∀ (c : C) (u : Value),zw g w σ c u → zw g' w σ c u
 | .f x,u,h => by simp only [zw] at h ⊢; rw [h3]; exact h
 | .ap t k xs,u,h => by simp only [zw] at h ⊢; rw [h3,h2]; exact h
 | .ptr id ver i off,u,h => by simp only [zw] at h ⊢; rw [h1]; exact h
 | .fp cs off,u,h => by simp only [zw] at h ⊢; rw [h3]; exact h
 | .own id ver lo m,u,h => by simp only [zw] at h ⊢; rw [h1]; exact h
 | .map id,u,h => by simp only [zw] at h ⊢; rw [h1]; exact h
 | .fn f a b,u,h => by
   simp only [zw] at h ⊢
   obtain ⟨fs,cs,k1,k2,k3⟩:=h
   exact ⟨fs,cs,k1,zj0 h1 h2 h3 a _ k2,zj0 h1 h2 h3 b _ k3⟩
 | .un,_,_ => by simp only [zw]
theorem zj0 {g' : G} (h1 : g'.ρ = g.ρ) (h2 : g'.tv = g.tv) (h3 : g'.N = g.N) : ∀ (cs : List C) (us : List Value),zv g w σ cs us → zv g' w σ cs us
 | [],us,h => by simpa only [zv] using h
 | c :: cs,us,h => by
   simp only [zv] at h ⊢
   obtain ⟨v,vs,k1,k2,k3⟩:=h
   exact ⟨v,vs,k1,zpg h1 h2 h3 c v k2,zj0 h1 h2 h3 cs vs k3⟩
end
mutual
theorem zg1 {g' : G} (h1 : g'.ρ = g.ρ) (h2 : g'.tv = g.tv) (h3 : g'.N = g.N) : ∀ (c : V) (u : Value),zf g w σ c u → zf g' w σ c u
 | .one c,u,h => by simp only [zf] at h ⊢; exact zpg h1 h2 h3 c u h
 | .agg cs,u,h => by
   simp only [zf] at h ⊢
   obtain ⟨us,k1,k2⟩:=h
   exact ⟨us,k1,zj0 h1 h2 h3 cs _ k2⟩
 | .tup vs,u,h => by
   simp only [zf] at h ⊢
   obtain ⟨us,k1,k2⟩:=h
   exact ⟨us,k1,zqk h1 h2 h3 vs _ k2⟩
theorem zqk {g' : G} (h1 : g'.ρ = g.ρ) (h2 : g'.tv = g.tv) (h3 : g'.N = g.N) : ∀ (vs : List V) (us : List Value),zz g w σ vs us → zz g' w σ vs us
 | [],us,h => by simpa only [zz] using h
 | c :: cs,us,h => by
   simp only [zz] at h ⊢
   obtain ⟨v,vs,k1,k2,k3⟩:=h
   exact ⟨v,vs,k1,zg1 h1 h2 h3 c v k2,zqk h1 h2 h3 cs vs k3⟩
end
theorem zsQ {g' : G} (h1 : g'.ρ = g.ρ) (h2 : g'.tv = g.tv) (h3 : g'.N = g.N) : ∀ {es : List (Int × V)} {zbl : List MapEntry},zpX g w σ es zbl → zpX g' w σ es zbl
 | [],_,h => h
 | x :: xs,_,h => by
   obtain ⟨e,rest,k1,k2,k3,k4⟩:=h
   exact ⟨e,rest,k1,k2,zg1 h1 h2 h3 _ _ k3,zsQ h1 h2 h3 k4⟩
theorem zxa {g' : G} (h1 : g'.ρ = g.ρ) (h2 : g'.tv = g.tv) (h3 : g'.N = g.N) {es : List (Int × V)} {zbl : List MapEntry} {clock : Nat} (h : zli g w σ es zbl clock) : zli g' w σ es zbl clock:=by
 have:=zn2 (g':=g') (w':=w) (σ':=σ) h id (fun _ => rfl) (fun es' hp h => by
  rw [yL]
  exact zsQ h1 h2 h3 h)
 rwa [yL] at this
theorem zy5 {g' : G} (R : Rel g w σ) (h1 : g'.ρ = g.ρ) (h2 : g'.tv = g.tv) (h3 : g'.N = g.N) (hob : ∀ b id,id < σ.length → g.ow b = .ob id → g'.ow b = .ob id) (htk : ∀ b t k,t < σ.length → g.ow b = .tk t k → g'.ow b = .tk t k) : Rel g' w σ:=by
 refine ⟨by rw [h3]; exact R.nb,fun id o ho => ?_⟩
 have hlt:=zb ho
 have hor:=R.ob id o ho
 cases o with
 | cells ver sz es =>
   intro hne
   obtain ⟨k1,k2,arr,t,k3,k4,k5⟩:=hor hne
   rw [h1,h3]
   refine ⟨hob _ _ hlt k1,k2,arr,t,k3,k4,fun i e hi => ⟨(k5 i e hi).1,fun j c hc => ?_⟩⟩
   obtain ⟨u,m1,m2,m3⟩:=(k5 i e hi).2 j c hc
   exact ⟨u,m1,zpg h1 h2 h3 c u m2,m3⟩
 | mp es =>
   obtain ⟨k1,k2,zbl,clock,k3,k4⟩:=hor
   unfold zAr
   rw [h1,h3]
   exact ⟨hob _ _ hlt k1,k2,zbl,clock,k3,zxa h1 h2 h3 k4⟩
 | tok sz fr =>
   intro k m hm
   rw [h2,h3]
   rcases hor k m hm with h | ⟨b,o,c,arr,t,k1,k2,k3,k4,k5⟩
   ·exact .inl h
   ·exact .inr ⟨b,o,c,arr,t,k1,k2,k3,htk _ _ _ hlt k4,k5⟩
theorem zzT (R : Rel g w σ) : Rel (g.clean σ.length) w σ :=
 zy5 R rfl rfl rfl (fun b id hid h => by simp [G.clean,Ow.cut,h,hid]) (fun b t k ht h => by simp [G.clean,Ow.cut,h,ht])
def G.under (g0 : G) (w0 : World) (g : G) : G:={ g with ow:=fun b => if b < w0.heap.size then g0.ow b else g.ow b }
theorem zoH {w' : World} {σ' : zd} {g' : G} (H : Ext (g.clean σ.length) w σ g' w' σ') : Ext g w σ (g.under w g') w' σ' where
 os:=H.os
 tape:=H.tape
 output:=H.output
 size:=H.size
 keeps:=H.keeps
 len:=H.len
 shape:=H.shape
 map:=H.map
 tok:=H.tok
 tsz:=H.tsz
 ow:=fun b hb => by
  show (if b < w.heap.size then g.ow b else g'.ow b) = _
  rw [if_pos hb]
 new:=fun b o h hb ho => H.new b o h hb (by simp [G.clean,Ow.cut,ho])
 frame:=fun b hb ho => H.frame b hb (by simp [G.clean,Ow.cut,ho])
theorem zpn {w' : World} {σ' : zd} {g' : G} (H : Ext (g.clean σ.length) w σ g' w' σ') (R : Rel g' w' σ') : Rel (g.under w g') w' σ':=by
 have key : ∀ b,b < w.heap.size → g'.ow b ≠ .no → g.ow b = g'.ow b:=fun b hb hne => by
  have:=H.ow b hb
  change g'.ow b = (g.ow b).cut σ.length at this
  rw [this] at hne ⊢
  cases h : g.ow b with
  | no => rfl
  | ob id =>
    rw [h] at hne
    simp only [Ow.cut] at hne ⊢
    split
    ·rfl
    ·rename_i hn; rw [if_neg hn] at hne; exact absurd rfl hne
  | tk t k =>
    rw [h] at hne
    simp only [Ow.cut] at hne ⊢
    split
    ·rfl
    ·rename_i hn; rw [if_neg hn] at hne; exact absurd rfl hne
 refine zy5 (g':=g.under w g') R rfl rfl rfl (fun b id hid h => ?_) (fun b t k ht h => ?_)
 ·show (if b < w.heap.size then g.ow b else g'.ow b) = _
  split
  ·rw [key b (by assumption) (by rw [h]; simp),h]
  ·exact h
 ·show (if b < w.heap.size then g.ow b else g'.ow b) = _
  split
  ·rw [key b (by assumption) (by rw [h]; simp),h]
  ·exact h
end
end Go.A
namespace Go.A
section
variable {g : G} {w : World} {σ : zd} {n : Nat}
theorem zmS (R : Rel g w σ) {N' : zf0} (hN : ∀ b o,g.N b o → N' b o) {id ver lo n : Nat} (hb : ∀ o,N' (g.ρ id) o ∨ ¬ (∃ sz es,σ[id]? = some (.cells ver sz es) ∧ es ≠ [])) {xs : List (List Fz)} {u : Value} (h : (σ[id]?).bind (Ob.frz ver lo n) = some xs) (hv : zf g w σ (.one (.own id ver lo n)) u) : rep w N' (.sl xs) u:=by
 rw [yc] at h
 obtain ⟨ob,h1,h2⟩:=h
 unfold Ob.frz at h2
 split at h2
 ·rename_i ver' sz es
  split at h2
  ·rename_i hver
   subst hver
   obtain ⟨a,c,e1,e2,e3,e4⟩:=zfP hv h1
   obtain ⟨hl,hg⟩:=zeh h2
   simp only [rep]
   by_cases hes : es = []
   ·subst hes
    have:=e3 rfl
    have hn : n = 0:=by omega
    subst hn
    have hx : xs = []:=ya (by rw [hl]; simp)
    subst hx
    exact ⟨a,c,sz,e1,by simp,by simp only [zbO],.inl rfl⟩
   ·obtain ⟨f1,f2,arr,t,f3,f4⟩:=e4 fun h => hes (ya h)
    obtain ⟨_,_,arr',t',m1,m2,m3⟩:=R.ob id _ h1 hes
    have hxn : xs.length = n:=by rw [hl]; simp; omega
    have hsub : ∀ i e,((es.drop lo).take n)[i]? = some e → es[lo + i]? = some e:=fun i e hi => by
     rw [yd] at hi
     split at hi
     ·rwa [yk] at hi
     ·cases hi
    refine ⟨a,c,sz,by rw [hxn]; exact e1,by omega,zdm fun e he => ?_,?_⟩
    ·obtain ⟨i,hi⟩:=ym.1 he
     obtain ⟨e',k1,k2⟩:=hg i e hi
     rw [(zex k2).1]
     exact (m3 _ e' (hsub i e' k1)).1
    ·rcases yy n with h0 | h0
     ·exact .inl (ya (by omega))
     ·refine .inr ⟨g.ρ id,lo * sz,f2 (by omega),zeA fun i e hi => zf3 fun j x hj => ?_⟩
      obtain ⟨e',k1,k2⟩:=hg i e hi
      obtain ⟨cc,k3,k4⟩:=(zex k2).2 j x hj
      obtain ⟨u',q1,q2,q3⟩:=(m3 _ e' (hsub i e' k1)).2 j cc k3
      refine ⟨u',(hb _).resolve_right fun hx => hx ⟨sz,es,h1,hes⟩,?_,zb6 (fun b o h => ⟨hN b o h,rfl⟩) x u' (zfH k4 q2)⟩
      rw [zg2 m1,show lo * sz + i * sz + j = (lo + i) * sz + j from by rw [yp]]
      exact q1
  ·cases h2
 ·cases h2
def G.inn (g : G) (lent : Bool) (w : World) : G:=⟨fun _ => 0,fun _ _ => undef,fun _ => .no,fun b o => g.N b o ∨ (lent = true ∧ b < w.heap.size)⟩
theorem zzs (R : Rel g w σ) (lent : Bool) : Rel (g.inn lent w) w []:=⟨fun b o h => h.elim (R.nb b o) fun h => h.2,fun id o h => by simp at h⟩
theorem ztN (lent : Bool) : zgN w w g.N (g.inn lent w).N:=fun _ _ h => ⟨.inl h,rfl⟩
theorem zmD {N' : zf0} (H : zgN w w g.N N') {g' : G} {σ' : zd} (hg : g'.N = N') : ∀ {cs : List C} {xs : List Fz} {us : List Value},zdo cs = some xs → zv g w σ cs us → zv g' w σ' (xs.map C.f) us
 | [],xs,us,h,hr => by
   simp only [zdo,Option.some.injEq] at h
   subst h
   simpa only [yz,zv] using hr
 | c :: cs,xs,us,h,hr => by
   simp only [zdo] at h
   obtain ⟨y,z,h1,h2,rfl⟩:=zez h
   simp only [zv] at hr
   obtain ⟨v,vs,rfl,k1,k2⟩:=hr
   simp only [yh,zv]
   exact ⟨v,vs,rfl,by simp only [zw]; rw [hg]; exact zb6 H y v (zfH h1 k1),zmD H hg h2 k2⟩
theorem zwf (R : Rel g w σ) {lent : Bool} {v v' : V} {u : Value} (h : zC9 σ v = some v') (hl : ztW v = true → lent = true) (hv : zf g w σ v u) : zf (g.inn lent w) w [] v' u:=by
 unfold zC9 at h
 split at h
 ·rename_i id ver lo n
  rw [yb] at h
  obtain ⟨xs,h,rfl⟩:=h
  have hlent:=hl rfl
  simp only [vsl,zf,zw]
  refine zmS R (fun b o h => .inl h) (fun o => ?_) h hv
  by_cases hx : ∃ sz es,σ[id]? = some (.cells ver sz es) ∧ es ≠ []
  ·obtain ⟨sz,es,k1,k2⟩:=hx
   obtain ⟨_,_,arr,t,k3,_⟩:=R.ob id _ k1 k2
   exact .inl (.inr ⟨hlent,(yj.1 k3).1⟩)
  ·exact .inr hx
 ·injection h with h
  subst h
  simp only [zf,zw] at hv ⊢
  obtain ⟨fs,cs,h1,h2,h3⟩:=hv
  exact ⟨fs,cs,h1,by simpa only [zv] using h2,by simpa only [zv] using h3⟩
 ·rw [yb] at h
  obtain ⟨x,h,rfl⟩:=h
  simp only [zf] at hv
  simp only [vf,zf,zw]
  exact zb6 (ztN lent) x u (zfH h hv)
 ·rw [yb] at h
  obtain ⟨xs,h,rfl⟩:=h
  simp only [zf] at hv
  obtain ⟨us,h1,h2⟩:=hv
  simp only [zAo,zf]
  exact ⟨us,h1,zmD (ztN lent) rfl h h2⟩
 ·cases h
theorem zk4 (R : Rel g w σ) {lent : Bool} : ∀ {vs vs' : List V} {us : List Value},zpK σ vs = some vs' → (vs.any ztW = true → lent = true) → zz g w σ vs us → zz (g.inn lent w) w [] vs' us
 | [],vs',us,h,_,hv => by
   simp only [zpK,Option.some.injEq] at h
   subst h
   simpa only [zz] using hv
 | v :: vs,vs',us,h,hl,hv => by
   simp only [zpK] at h
   obtain ⟨y,z,h1,h2,rfl⟩:=zez h
   simp only [zz] at hv ⊢
   obtain ⟨x,xs,rfl,k1,k2⟩:=hv
   simp only [List.any_cons,Bool.or_eq_true] at hl
   exact ⟨x,xs,rfl,zwf R h1 (fun h => hl (.inl h)) k1,zk4 R h2 (fun h => hl (.inr h)) k2⟩
def Ow.shift (n : Nat) : Ow → Ow
 | .no => .no
 | .ob id => .ob (id + n)
 | .tk t k => .tk (t + n) k
def G.out (g : G) (w : World) (n : Nat) (keep : Prop) (g' : G) : G where
 ρ:=fun id => if id < n then g.ρ id else g'.ρ (id - n)
 tv:=fun t k => if t < n then g.tv t k else g'.tv (t - n) k
 ow:=fun b => if b < w.heap.size then g.ow b else (g'.ow b).shift n
 N:=fun b o => g.N b o ∨ (w.heap.size ≤ b ∧ keep ∧ g'.N b o)
section
variable {lent : Bool} {keep : Prop} {g' : G} {w' : World} {σ' : zd}
theorem out_ρ_old {id : Nat} (h : id < n) : (g.out w n keep g').ρ id = g.ρ id:=by simp [G.out,h]
theorem out_ρ_new {id : Nat} : (g.out w n keep g').ρ (id + n) = g'.ρ id:=by
 show (if id + n < n then _ else g'.ρ (id + n - n)) = _
 rw [if_neg (by omega),yq]
theorem zqx {t k : Nat} (h : t < n) : (g.out w n keep g').tv t k = g.tv t k:=by simp [G.out,h]
theorem zqC {t k : Nat} : (g.out w n keep g').tv (t + n) k = g'.tv t k:=by
 show (if t + n < n then _ else g'.tv (t + n - n) k) = _
 rw [if_neg (by omega),yq]
theorem zqy {b : Nat} (h : b < w.heap.size) : (g.out w n keep g').ow b = g.ow b:=by simp [G.out,h]
theorem zmC {b : Nat} (h : ¬ b < w.heap.size) : (g.out w n keep g').ow b = (g'.ow b).shift n:=by simp [G.out,h]
theorem zt2 (R : Rel g w σ) (H : Ext (g.inn lent w) w [] g' w' σ') (os : List Ob) : Ext g w σ (g.out w σ.length keep g') w' (σ ++ os) where
 os:=H.os
 tape:=H.tape
 output:=H.output
 size:=H.size
 keeps:=fun b o h => ⟨.inl h,by
  unfold World.cell?
  rw [H.frame b (R.nb b o h) rfl]⟩
 len:=by simp
 shape:=fun id ver sz len h => by
  obtain ⟨es,h1,_⟩:=zaL h
  have hlt:=zb h1
  refine .inl ⟨by unfold shapeOf; rw [yf hlt]; exact h,out_ρ_old hlt,fun _ arr t ha => ⟨arr,?_,rfl⟩⟩
  rw [H.frame _ (yj.1 ha).1 rfl]
  exact ha
 map:=fun id es h => ⟨out_ρ_old (zb h),es,by rw [yf (zb h)]; exact h⟩
 tok:=fun t k m h => by
  obtain ⟨sz,fr,h1,h2⟩:=zcS h
  exact ⟨m,zdE (by rw [yf (zb h1)]; exact h1) h2,yB _,fun _ => zqx (zb h1)⟩
 tsz:=fun t sz h => by
  obtain ⟨fr,h1⟩:=zet h
  exact zbV (fr:=fr) (by rw [yf (zb h1)]; exact h1)
 ow:=fun b hb => zqy hb
 new:=fun b o h hb _ => h.elim id fun h => by omega
 frame:=fun b hb _ => H.frame b hb rfl
theorem zmc (hk : keep) (hlent : lent = false) (H : Ext (g.inn lent w) w [] g' w' σ') : zgN w' w' g'.N (g.out w n keep g').N:=fun b o h => ⟨by
 by_cases hb : b < w.heap.size
 ·have:=H.new b o h hb rfl
  rcases this with h1 | h1
  ·exact .inl h1
  ·rw [hlent] at h1; cases h1.1
 ·exact .inr ⟨by omega,hk,h⟩,rfl⟩
theorem zlO (os : List Ob) {i : Nat} {o : Ob} (h : σ'[i]? = some o) : (σ ++ σ'.map (Ob.shift σ.length))[i + σ.length]? = some (o.shift σ.length):=by
 rw [yA (by omega),yq,yg,h]
 rfl
theorem zpx {id ver sz len : Nat} (h : shapeOf σ' id = some (ver,sz,len)) : shapeOf (σ ++ σ'.map (Ob.shift σ.length)) (id + σ.length) = some (ver,sz,len):=by
 obtain ⟨es,h1,h2⟩:=zaL h
 rw [zn (zlO [] h1)]
 simp [h2]
theorem zAT {t k m : Nat} (h : zlw σ' t k = some m) : zlw (σ ++ σ'.map (Ob.shift σ.length)) (t + σ.length) k = some m:=by
 obtain ⟨sz,fr,h1,h2⟩:=zcS h
 exact zdE (zlO [] h1) h2
theorem zyl {t sz : Nat} (h : znV σ' t = some sz) : znV (σ ++ σ'.map (Ob.shift σ.length)) (t + σ.length) = some sz:=by
 obtain ⟨fr,h1⟩:=zet h
 exact zbV (zlO [] h1)
mutual
theorem zng (hk : keep) (hlent : lent = false) (H : Ext (g.inn lent w) w [] g' w' σ') : ∀ (c : C) (u : Value),zw g' w' σ' c u → zw (g.out w σ.length keep g') w' (σ ++ σ'.map (Ob.shift σ.length)) (c.shift σ.length) u
 | .f x,u,h => by
   simp only [C.shift,zw] at h ⊢
   exact zb6 (zmc hk hlent H) x u h
 | .ap t k xs,u,h => by
   simp only [C.shift,zw] at h ⊢
   obtain ⟨h1,m,h2,h3,h4,sz,h5,h6⟩:=h
   exact ⟨zb6 (zmc hk hlent H) _ u h1,m,zAT h2,h3,by rw [zqC]; exact h4,sz,zyl h5,h6⟩
 | .ptr id ver i off,u,h => by
   simp only [C.shift,zw] at h ⊢
   obtain ⟨v0,sz,len,h1,h2⟩:=h
   exact ⟨v0,sz,len,zpx h1,by rw [out_ρ_new]; exact h2⟩
 | .fp cs off,u,h => by
   simp only [C.shift,zw] at h ⊢
   obtain ⟨b,o,h1,h2⟩:=h
   exact ⟨b,o,h1,ze5 (zmc hk hlent H) cs b o h2⟩
 | .own id ver lo m,u,h => by
   simp only [C.shift,zw] at h ⊢
   obtain ⟨v0,sz,len,h1,h2⟩:=h
   exact ⟨v0,sz,len,zpx h1,by rw [out_ρ_new]; exact h2⟩
 | .map id,u,h => by
   simp only [C.shift,zw] at h ⊢
   obtain ⟨⟨es,h1⟩,h2⟩:=h
   exact ⟨⟨_,zlO [] h1⟩,by rw [out_ρ_new]; exact h2⟩
 | .fn f a b,u,h => by
   simp only [C.shift,zw] at h ⊢
   obtain ⟨fs,cs,h1,h2,h3⟩:=h
   exact ⟨fs,cs,h1,ziR hk hlent H a _ h2,ziR hk hlent H b _ h3⟩
 | .un,_,_ => by simp only [C.shift,zw]
theorem ziR (hk : keep) (hlent : lent = false) (H : Ext (g.inn lent w) w [] g' w' σ') : ∀ (cs : List C) (us : List Value),zv g' w' σ' cs us → zv (g.out w σ.length keep g') w' (σ ++ σ'.map (Ob.shift σ.length)) (C.shifts σ.length cs) us
 | [],us,h => by simpa only [C.shifts,zv] using h
 | c :: cs,us,h => by
   simp only [C.shifts,zv] at h ⊢
   obtain ⟨v,vs,h1,h2,h3⟩:=h
   exact ⟨v,vs,h1,zng hk hlent H c v h2,ziR hk hlent H cs vs h3⟩
end
mutual
theorem zmI (hk : keep) (hlent : lent = false) (H : Ext (g.inn lent w) w [] g' w' σ') : ∀ (c : V) (u : Value),zf g' w' σ' c u → zf (g.out w σ.length keep g') w' (σ ++ σ'.map (Ob.shift σ.length)) (c.shift σ.length) u
 | .one c,u,h => by
   simp only [V.shift,zf] at h ⊢
   exact zng hk hlent H c u h
 | .agg cs,u,h => by
   simp only [V.shift,zf] at h ⊢
   obtain ⟨us,h1,h2⟩:=h
   exact ⟨us,h1,ziR hk hlent H cs _ h2⟩
 | .tup vs,u,h => by
   simp only [V.shift,zf] at h ⊢
   obtain ⟨us,h1,h2⟩:=h
   exact ⟨us,h1,zpd hk hlent H vs _ h2⟩
theorem zpd (hk : keep) (hlent : lent = false) (H : Ext (g.inn lent w) w [] g' w' σ') : ∀ (vs : List V) (us : List Value),zz g' w' σ' vs us → zz (g.out w σ.length keep g') w' (σ ++ σ'.map (Ob.shift σ.length)) (V.shifts σ.length vs) us
 | [],us,h => by simpa only [V.shifts,zz] using h
 | c :: cs,us,h => by
   simp only [V.shifts,zz] at h ⊢
   obtain ⟨v,vs,h1,h2,h3⟩:=h
   exact ⟨v,vs,h1,zmI hk hlent H c v h2,zpd hk hlent H cs vs h3⟩
end
theorem zqZ {n : Nat} : ∀ {cs : List C} {j : Nat} {c : C},(C.shifts n cs)[j]? = some c → ∃ c',cs[j]? = some c' ∧ c = c'.shift n
 | [],j,c,h => by simp [C.shifts] at h
 | x :: cs,j,c,h => by
   cases j with
   | zero => simp [C.shifts] at h; exact ⟨x,by simp,h.symm⟩
   | succ j => simpa using zqZ (cs:=cs) (by simpa [C.shifts] using h)
theorem zlC {n : Nat} : ∀ {cs : List C},(C.shifts n cs).length = cs.length
 | [] => rfl
 | x :: cs => by simp [C.shifts,zlC (cs:=cs)]
theorem zqn (hk : keep) (hlent : lent = false) (H : Ext (g.inn lent w) w [] g' w' σ') : ∀ {es : List (Int × V)} {zbl : List MapEntry},zpX g' w' σ' es zbl → zpX (g.out w σ.length keep g') w' (σ ++ σ'.map (Ob.shift σ.length)) (es.map fun e => (e.1,e.2.shift σ.length)) zbl
 | [],_,h => h
 | x :: xs,_,h => by
   obtain ⟨e,rest,k1,k2,k3,k4⟩:=h
   exact ⟨e,rest,k1,k2,zmI hk hlent H _ _ k3,zqn hk hlent H k4⟩
theorem zon (R : Rel g w σ) (H : Ext (g.inn lent w) w [] g' w' σ') (R' : Rel g' w' σ') (os : List Ob) {id : Nat} {o : Ob} (ho : σ[id]? = some o) : zAr (g.out w σ.length keep g') w' (σ ++ os) id o :=
 zcM (zt2 R H os) (out_ρ_old (zb ho)) (fun _ => zqx (zb ho)) (fun b hb _ => ⟨H.frame b hb rfl,zqy hb,fun o h => h.elim (fun h => h) fun h => by omega⟩) (R.ob id o ho)
theorem zqm (R : Rel g w σ) (H : Ext (g.inn lent w) w [] g' w' σ') (R' : Rel g' w' σ') : ∀ b o,(g.out w σ.length keep g').N b o → b < w'.heap.size:=fun b o h =>
 h.elim (fun h => Nat.lt_of_lt_of_le (R.nb b o h) H.size) fun h => R'.nb b o h.2.2
theorem zuX (R : Rel g w σ) (H : Ext (g.inn lent w) w [] g' w' []) (R' : Rel g' w' []) : Rel (g.out w σ.length keep g') w' σ :=
 ⟨zqm R H R',fun id o ho => by simpa using zon (keep:=keep) R H R' [] ho⟩
theorem zDA (R : Rel g w σ) (hk : keep) (hlent : lent = false) (H : Ext (g.inn lent w) w [] g' w' σ') (R' : Rel g' w' σ') : Rel (g.out w σ.length keep g') w' (σ ++ σ'.map (Ob.shift σ.length)):=by
 refine ⟨zqm R H R',fun id o ho => ?_⟩
 by_cases hid : id < σ.length
 ·rw [yf hid] at ho
  exact zon R H R' _ ho
 ·rw [yA (by omega),yg,yb] at ho
  obtain ⟨o',ho',rfl⟩:=ho
  obtain ⟨j,rfl⟩ : ∃ j,id = j + σ.length:=⟨id - σ.length,by omega⟩
  rw [yq] at ho'
  have hor:=R'.ob j o' ho'
  have hbig : ∀ b,g'.ow b ≠ .no → ¬ b < w.heap.size:=fun b hne hb => hne (H.ow b hb)
  have hno : ∀ b,¬ b < w.heap.size → (∀ o,¬ g'.N b o) → ∀ o,¬ (g.out w σ.length keep g').N b o:=fun b hb hN o h => by
   rcases h with h | h
   ·exact hb (R.nb b o h)
   ·exact hN o h.2.2
  cases o' with
  | cells ver sz es =>
    intro hne
    have hne' : es ≠ []:=fun h => hne (by rw [h]; rfl)
    obtain ⟨h1,h2,arr,t,h3,h4,h5⟩:=hor hne'
    have hb:=hbig _ (by rw [h1]; simp)
    rw [out_ρ_new]
    refine ⟨by rw [zmC hb,h1]; rfl,hno _ hb h2,arr,t,h3,by simpa using h4,fun i e hi => ?_⟩
    rw [yg,yb] at hi
    obtain ⟨e',hi,rfl⟩:=hi
    refine ⟨by rw [zlC]; exact (h5 i e' hi).1,fun j c hc => ?_⟩
    obtain ⟨c',hc',rfl⟩:=zqZ hc
    obtain ⟨u,k1,k2,k3⟩:=(h5 i e' hi).2 j c' hc'
    exact ⟨u,k1,zng hk hlent H c' u k2,k3⟩
  | mp es =>
    obtain ⟨h1,h2,zbl,clock,h3,h4⟩:=hor
    have hb:=hbig _ (by rw [h1]; simp)
    show _ ∧ _
    rw [out_ρ_new]
    exact ⟨by rw [zmC hb,h1]; rfl,hno _ hb h2,zbl,clock,h3,zn2 h4 (fun e => (e.1,e.2.shift σ.length)) (fun _ => rfl) fun es' _ h => zqn hk hlent H h⟩
  | tok sz fr =>
    intro k m hm
    rw [zqC]
    rcases hor k m hm with h | ⟨b,o,c,arr,t,h1,h2,h3,h4,h5,h6,h7⟩
    ·exact .inl h
    ·have hb:=hbig _ (by rw [h4]; simp)
     refine .inr ⟨b,o,c,arr,t,h1,h2,h3,by rw [zmC hb,h4]; rfl,h5,h6,fun o' ho' => ?_⟩
     rcases ho' with ho' | ho'
     ·exact absurd (R.nb _ _ ho') hb
     ·exact h7 o' ho'.2.2
mutual
theorem zsX {w1 : World} {σ2 : zd} {g1 g2 : G} (hk : zgN w1 w1 g1.N g2.N) : ∀ (c : C) (u : Value),zw g1 w1 [] c u → zw g2 w1 σ2 c u
 | .f x,u,h => by simp only [zw] at h ⊢; exact zb6 hk x u h
 | .ap t k xs,u,h => by have:=zmL _ u h; simp [C.lt] at this
 | .ptr id ver i off,u,h => by have:=zmL _ u h; simp [C.lt] at this
 | .fp cs off,u,h => by
   simp only [zw] at h ⊢
   obtain ⟨b,o,h1,h2⟩:=h
   exact ⟨b,o,h1,ze5 hk cs b o h2⟩
 | .own id ver lo m,u,h => by have:=zmL _ u h; simp [C.lt] at this
 | .map id,u,h => by have:=zmL _ u h; simp [C.lt] at this
 | .fn f a b,u,h => by
   simp only [zw] at h ⊢
   obtain ⟨fs,cs,h1,h2,h3⟩:=h
   exact ⟨fs,cs,h1,zkd hk a _ h2,zkd hk b _ h3⟩
 | .un,_,_ => by simp only [zw]
theorem zkd {w1 : World} {σ2 : zd} {g1 g2 : G} (hk : zgN w1 w1 g1.N g2.N) : ∀ (cs : List C) (us : List Value),zv g1 w1 [] cs us → zv g2 w1 σ2 cs us
 | [],us,h => by simpa only [zv] using h
 | c :: cs,us,h => by
   simp only [zv] at h ⊢
   obtain ⟨v,vs,h1,h2,h3⟩:=h
   exact ⟨v,vs,h1,zsX hk c v h2,zkd hk cs vs h3⟩
end
mutual
theorem ztH {w1 : World} {σ2 : zd} {g1 g2 : G} (hk : zgN w1 w1 g1.N g2.N) : ∀ (c : V) (u : Value),zf g1 w1 [] c u → zf g2 w1 σ2 c u
 | .one c,u,h => by simp only [zf] at h ⊢; exact zsX hk c u h
 | .agg cs,u,h => by
   simp only [zf] at h ⊢
   obtain ⟨us,h1,h2⟩:=h
   exact ⟨us,h1,zkd hk cs _ h2⟩
 | .tup vs,u,h => by
   simp only [zf] at h ⊢
   obtain ⟨us,h1,h2⟩:=h
   exact ⟨us,h1,zqV hk vs _ h2⟩
theorem zqV {w1 : World} {σ2 : zd} {g1 g2 : G} (hk : zgN w1 w1 g1.N g2.N) : ∀ (vs : List V) (us : List Value),zz g1 w1 [] vs us → zz g2 w1 σ2 vs us
 | [],us,h => by simpa only [zz] using h
 | c :: cs,us,h => by
   simp only [zz] at h ⊢
   obtain ⟨v,vs,h1,h2,h3⟩:=h
   exact ⟨v,vs,h1,ztH hk c v h2,zqV hk cs vs h3⟩
end
theorem zpv {w1 w2 : World} {σ1 σ2 : zd} {g1 g2 : G} : ∀ {cs : List C} {us : List Value},(cs.all fun c => match c with
  | .f (.lit _) => true
  | _ => false) = true → zv g1 w1 σ1 cs us → zv g2 w2 σ2 cs us
 | [],us,_,h => by simpa only [zv] using h
 | c :: cs,us,hp,h => by
   simp only [yD,ye] at hp
   simp only [zv] at h ⊢
   obtain ⟨v,vs,h1,h2,h3⟩:=h
   refine ⟨v,vs,h1,?_,zpv hp.2 h3⟩
   have hp1:=hp.1
   split at hp1
   ·simpa only [zw,rep] using h2
   ·cases hp1
mutual
theorem zq0 {w1 w2 : World} {σ1 σ2 : zd} {g1 g2 : G} : ∀ (c : V) (u : Value),c.plain = true → zf g1 w1 σ1 c u → zf g2 w2 σ2 c u
 | .one c,u,hp,h => by
   cases c with
   | f x =>
     cases x with
     | lit v => simpa only [zf,zw,rep] using h
     | sl xs => simp [V.plain] at hp
   | _ => simp [V.plain] at hp
 | .agg cs,u,hp,h => by
   simp only [V.plain] at hp
   simp only [zf] at h ⊢
   obtain ⟨us,h1,h2⟩:=h
   exact ⟨us,h1,zpv hp h2⟩
 | .tup vs,u,hp,h => by
   simp only [V.plain] at hp
   simp only [zf] at h ⊢
   obtain ⟨us,h1,h2⟩:=h
   exact ⟨us,h1,zoO vs _ hp h2⟩
theorem zoO {w1 w2 : World} {σ1 σ2 : zd} {g1 g2 : G} : ∀ (vs : List V) (us : List Value),V.plains vs = true → zz g1 w1 σ1 vs us → zz g2 w2 σ2 vs us
 | [],us,_,h => by simpa only [zz] using h
 | c :: cs,us,hp,h => by
   simp only [V.plains,ye] at hp
   simp only [zz] at h ⊢
   obtain ⟨v,vs,h1,h2,h3⟩:=h
   exact ⟨v,vs,h1,zq0 c v hp.1 h2,zoO cs vs hp.2 h3⟩
end
end
end
end Go.A
namespace Go.A
def Enters (P : Program) (f : Nat) : Prop := ∃ fn c, P.funcs[f]? = some fn ∧ (fn.name == "runtime.NumGoroutine") = false ∧ fn.body = some c
def zgX (P : Program) (C : zad) : Prop:=∀ (f : Nat) (args : List V) (σ : zd) (v : V) (σ' : zd),C f args σ = some (v,σ') →
 Enters P f ∧ ∀ (g : G) (w : World) (us : List Value),Rel g w σ → zz g w σ args us → Calls P f us.toArray w fun e w' => ∃ u g',e = .returned u ∧ zf g' w' σ' v u ∧ Rel g' w' σ' ∧ Ext g w σ g' w' σ'
section
variable {P : Program} {κ : List Tmp} {loc : List (Option Tmp)} {nt : Nat} {g : G} {w : World} {r r' : R} {a : Act} {o : Go.Oper} {d : D} {next : Act → World → Prop} {Q : Exit → Act → World → Prop}
theorem zjd {σ : zd} : ∀ {vs vs' : List V} {us us' : List Value},zz g w σ vs us → zz g w σ vs' us' → zz g w σ (vs ++ vs') (us ++ us')
 | [],vs',us,us',h,h' => by
   simp only [zz] at h
   subst h
   simpa using h'
 | v :: vs,vs',us,us',h,h' => by
   simp only [zz,yO] at h ⊢
   obtain ⟨x,xs,rfl,h1,h2⟩:=h
   exact ⟨x,xs ++ us',rfl,h1,zjd h2 h'⟩
theorem zo8 {σ : zd} : ∀ {cs : List C} {us : List Value},zv g w σ cs us → zz g w σ (cs.map V.one) us
 | [],us,h => by simpa only [zv,zz,yz] using h
 | c :: cs,us,h => by
   simp only [zv] at h
   obtain ⟨v,vs,rfl,h1,h2⟩:=h
   simp only [yh,zz]
   exact ⟨v,vs,rfl,by simp only [zf]; exact h1,zo8 h2⟩
theorem zsD {f : Nat} (h : Enters P f) (args : Array Value) : (callFunc f args).run P w = .ok (.enter f args) w:=by
 obtain ⟨fn,c,h1,h2,h3⟩:=h
 have h2' : ¬ fn.name = "runtime.NumGoroutine" := by simpa using h2
 simp [callFunc,h1,h2',h3]
theorem zmO {ct : Go.Call} {fv : Operand} (ho : o.op = .call ct) (hcal : ct.callee = .value fv) {f : Nat} {fs cs : Array Value} (hf : a.eval fv = .func (.func f) fs cs) (he : Enters P f) :
  (execOp a.eval o).run P w = .ok (.enter f (fs ++ ct.args.map a.eval ++ cs)) w:=by
 unfold execOp
 simp only [ho,resolve,hcal,hf,Deferred.ofValue,invoke,Sem.run_bind,Sem.run_pure,Result.andThen_ok,zsD he]
theorem zra {f : Nat} {args : Array Value} (h : (execOp a.eval o).run P w = .ok (.enter f args) w) {R : Ending → World → Prop} (hc : Calls P f args w R) (k : ∀ e w',R e w' → ∃ u,e = .returned u ∧ next (a.put o.dst u) w') : o.wp P a w next Q:=by
 unfold Oper.wp
 rw [h,Oper.upon_enter]
 refine Calls.mono hc fun e w' he => ?_
 obtain ⟨u,rfl,hn⟩:=k e w' he
 exact hn
theorem zwM {Cf : zad} (S : zgX P Cf) (R0 : Rel g w r.st) (L : Low r.base r.lim r.st) (F : Fr κ loc nt g w r a) {ct : Go.Call} {fv : Operand} {m : Mode} {fx : X} {xs : List X} (ho : o.op = .call ct) (hcal : ct.callee = .value fv) (hd : okD κ nt o.dst d = true)
  (hfx : okX κ loc fv fx = true) (hxs : zzG κ loc ct.args.toList xs = true) {r1 : R} (h : znQ Cf r d m (r.gets xs) (r.get fx) = some r1) (k : znX κ (zaS o.dst d :: loc) nt g w r r1 (a.put o.dst) next) : o.wp P a w next Q:=by
 have hf:=F.get hfx
 have hargs:=F.gets hxs
 unfold znQ at h
 split at h
 ·rename_i f first caps hfn
  rw [hfn] at hf
  simp only [zf,zw] at hf
  obtain ⟨fs,cs,ef,h1,h2⟩:=hf
  have hall : zz g w r.st (first.map V.one ++ (r.gets xs ++ caps.map V.one)) (fs.toList ++ (ct.args.toList.map a.eval ++ cs.toList)):=zjd (zo8 h1) (zjd hargs (zo8 h2))
  have harr : (fs ++ ct.args.map a.eval ++ cs) = (fs.toList ++ (ct.args.toList.map a.eval ++ cs.toList)).toArray:=by
   apply Array.ext'
   simp
  cases m with
  | op =>
    simp only [yb] at h
    obtain ⟨⟨v,σ'⟩,hC,rfl⟩:=h
    obtain ⟨he,hs⟩:=S f _ _ v σ' hC
    refine zra (zmO ho hcal ef he) (R:=_) (by rw [harr]; exact hs g w _ R0 hall) fun e w' hR => ?_
    obtain ⟨u,g',rfl,hv,R1,H⟩:=hR
    refine ⟨u,rfl,?_⟩
    have hL : Low r.base r.lim σ':=⟨trivial⟩
    have hst : ({ r with st:=σ' } : R).st = σ':=rfl
    have hF : Fr κ loc nt g' w' { r with st:=σ' } a:=F.ext (r':={ r with st:=σ' }) H rfl rfl
    refine k g' w' _ ?_ ?_ ?_ (hF.put hd fun _ => hv) <;> rw [zvP,zeU]
    ·exact H
    ·exact R1
    ·exact hL
  | cl =>
    simp only at h
    rw [yc] at h
    obtain ⟨⟨v,σ'⟩,hC,h⟩:=h
    rw [yc] at hC
    obtain ⟨as,hfz,hC⟩:=hC
    generalize hlent : (first.map V.one ++ (r.gets xs ++ caps.map V.one)).any ztW = lent at h
    unfold zvV at h
    split at h
    ·rename_i hc
     obtain ⟨hc1,hc2⟩:=hc
     have hσ : σ' = []:=ya hc1
     subst hσ
     injection h with h
     subst h
     obtain ⟨he,hs⟩:=S f as [] v [] hC
     refine zra (zmO ho hcal ef he) (R:=_) (by rw [harr]; exact hs (g.inn lent w) w _ (zzs R0 lent) (zk4 R0 hfz (fun h => by rw [← hlent]; exact h) hall)) fun e w' hR => ?_
     obtain ⟨u,g',rfl,hv,R1,H⟩:=hR
     refine ⟨u,rfl,?_⟩
     have H2 : Ext g w r.st (g.out w r.st.length (lent = false) g') w' r.st:=by simpa using zt2 (keep:=lent = false) R0 H []
     have R2:=zuX (keep:=lent = false) R0 H R1
     have hF : Fr κ loc nt (g.out w r.st.length (lent = false) g') w' r a:=F.ext H2 rfl rfl
     refine k _ w' _ ?_ ?_ ?_ (hF.put hd fun _ => ?_)
     ·rw [zeU]; exact H2
     ·rw [zeU]; exact R2
     ·rw [zeU]; exact L
     ·rcases hc2 with hl | hl
      ·exact ztH (zmc hl hl H) v u hv
      ·exact zq0 v u hl hv
    ·cases h
  | ck =>
    simp only at h
    split at h
    ·cases h
    ·rename_i hown
     have hlent : (first.map V.one ++ (r.gets xs ++ caps.map V.one)).any ztW = false:=by simpa using hown
     rw [yb] at h
     obtain ⟨⟨v,σ'⟩,hC,rfl⟩:=h
     rw [yc] at hC
     obtain ⟨as,hfz,hC⟩:=hC
     obtain ⟨he,hs⟩:=S f as [] v σ' hC
     refine zra (zmO ho hcal ef he) (R:=_) (by rw [harr]; exact hs (g.inn false w) w _ (zzs R0 false) (zk4 R0 hfz (fun h => by rw [hlent] at h; cases h) hall)) fun e w' hR => ?_
     obtain ⟨u,g',rfl,hv,R1,H⟩:=hR
     refine ⟨u,rfl,?_⟩
     have H2:=zt2 (keep:=True) R0 H (σ'.map (Ob.shift r.st.length))
     have R2:=zDA (keep:=True) R0 trivial rfl H R1
     have hF : Fr κ loc nt (g.out w r.st.length True g') w' { r with st:=r.st ++ σ'.map (Ob.shift r.st.length) } a:=F.ext (r':={ r with st:=r.st ++ σ'.map (Ob.shift r.st.length) }) H2 rfl rfl
     refine k _ w' _ ?_ ?_ ?_ (hF.put hd fun _ => zmI trivial rfl H v u hv) <;> rw [zvS,zeU]
     ·exact H2
     ·exact R2
     ·exact L.append _
 ·cases h
end
end Go.A
namespace Go.A
section
variable {P : Program} {κ : List Tmp} {loc : List (Option Tmp)} {nt : Nat} {g : G} {w : World} {r r' : R} {a : Act} {o : Go.Oper} {d : D} {next : Act → World → Prop} {Q : Exit → Act → World → Prop}
theorem zqH : ∀ {cs : List C} {fs : List Fz},zdo cs = some fs → C.kns cs = true
 | [],_,_ => rfl
 | c :: cs,fs,h => by
   rw [zdo] at h
   obtain ⟨y,z,h1,h2,rfl⟩:=zez h
   have ih:=zqH h2
   cases c <;> first | exact ih | (simp [zui] at h1)
theorem zyM (R0 : Rel g w r.st) (L : Low r.base r.lim r.st) (F : Fr κ loc nt g w r a) {t : TypeId} {x : Operand} {sz : Nat} (ho : o.op = .box t x) (hd : okD κ nt o.dst d = true) (h0 : 0 < sz)
  {vx : V} (hx : zf g w r.st vx (a.eval x)) (hl : vx.cells.length = sz) {fs : List Fz} (hf : zdo vx.cells = some fs)
  (k : znX κ (zaS o.dst d :: loc) nt g w r (zFz r d fs) (a.put o.dst) next) : o.wp P a w next Q:=by
 subst hl
 obtain ⟨k1,k2⟩:=zhX hx (zqH hf) h0
 have hrows : zaq [vx.cells] = some [fs]:=by simp [zaq,hf,zfO]
 have hlay:=zk3 (arr:=(a.eval x).cells) (by
  have:=zC k1
  simp at this ⊢
  exact this) (zkh k1 k2) hrows
 obtain ⟨g',H,R1,hv⟩:=zu5 R0 t hlay
 refine zaX (r1:=r) F hd H R1 L rfl rfl (u:=.pointer (some ⟨w.heap.size,0,none⟩)) ?_ ?_ k
 ·unfold execOp
  simp [ho,Instr.box,newVar,newRow]
 ·simp only [vsl,zf,zw,rep] at hv ⊢
  obtain ⟨ad,c,sz',e1,e2,e3,e4⟩:=hv
  rcases e4 with h | ⟨b,oo,h,h5⟩
  ·cases h
  ·injection e1 with q1 q2 q3
   rw [h] at q1
   injection q1 with q1
   injection q1 with q1 q4
   subst q1 q4
   simp only [zfw] at h5
   exact ⟨_,0,rfl,h5.1⟩
theorem zx2 {t e : TypeId} {n l : Nat} {x : Operand} {lo : Option Operand} (ho : o.op = .slice t x lo none none) (ht : P.underlying t = some (.array n e)) (hs : zhI P e = some 1)
  (hlo : (lo = none ∧ l = 0) ∨ ∃ k,lo = some (.const (.int k (l : Int)))) {vx v : V} (hx : zf g w r.st vx (a.eval x)) (h : zE4 n l vx = some v) :
  ∃ u,(execOp a.eval o).run P w = .ok (.value u) w ∧ zf g w r.st v u:=by
 unfold zE4 at h
 split at h
 ·rename_i cs
  split at h
  ·rename_i hc
   injection h with h
   subst h
   simp only [zf,zw] at hx
   obtain ⟨b,oo,ex,hr⟩:=hx
   unfold zhI at hs
   cases hq : P.info? e with
   | none => simp [hq] at hs
   | some inf =>
     have hsz : inf.size = 1:=by simpa [hq] using hs
     have hb : (lo.map a.eval = none ∧ l = 0) ∨ ∃ k,lo.map a.eval = some (.int k (l : Int)):=by
      rcases hlo with ⟨rfl,h2⟩ | ⟨k,rfl⟩
      ·exact .inl ⟨rfl,h2⟩
      ·exact .inr ⟨k,rfl⟩
     have hbd:=zgK (w:=w) (P:=P) false (len:=n) (cap:=n) (lo:=l) (hi:=n) (vlo:=lo.map a.eval) (vhi:=none) (vmx:=none) hb (.inl ⟨rfl,rfl,rfl⟩) (.inl rfl) hc.2 (yB _)
     refine ⟨.slice (some (if n = l then ⟨b,oo,none⟩ else (⟨b,oo,none⟩ : Addr).add (l * 1))) (n - l) (n - l),?_,?_⟩
     ·unfold execOp
      simp only [ho,ex]
      simp [Instr.sliceAt,run_underlying ht,Go.Instr.sureAddr,hbd,sizeOf,typeInfo,hq,hsz]
     ·simp only [vsl,zf,zw,rep]
      have hlen : ((cs.drop l).map single).length = n - l:=by simp; omega
      refine ⟨_,n - l,1,by rw [hlen],by omega,zdm fun e he => ?_,?_⟩
      ·obtain ⟨c,_,rfl⟩:=yC.1 he
       rfl
      ·by_cases c0 : n = l
       ·refine .inl ?_
        rw [List.map_eq_nil_iff,List.drop_eq_nil_iff]
        omega
       ·refine .inr ⟨b,oo + l,?_,zeA fun i e hi => zf3 fun j y hj => ?_⟩
        ·rw [if_neg c0,zaA]
         simp
        ·rw [yg,yb] at hi
         obtain ⟨c,hi,rfl⟩:=hi
         rw [yk] at hi
         cases j with
         | succ j => simp [single] at hj
         | zero =>
           simp [single] at hj
           subst hj
           obtain ⟨u,h1,h2,h3⟩:=zfK hr hi
           refine ⟨u,?_,?_,h3⟩
           ·rw [show oo + l + i * 1 + 0 = oo + (l + i) from by omega]; exact h1
           ·rw [show oo + l + i * 1 + 0 = oo + (l + i) from by omega]; exact h2
  ·cases h
 ·cases h
theorem znn : ∀ {xs : List (List Fz)} {ns : List Int},bytesOf xs = some ns → xs = ns.map fun n => [.lit (.int .u8 n)]
 | [],ns,h => by
   simp [bytesOf] at h
   subst h
   rfl
 | e :: es,ns,h => by
   rw [bytesOf] at h
   obtain ⟨y,z,h1,h2,rfl⟩:=zez h
   have ih:=znn h2
   unfold byteOf at h1
   split at h1
   ·injection h1 with h1
    subst h1
    rw [ih]
    rfl
   ·cases h1
theorem zyO (R0 : Rel g w r.st) {s t e : TypeId} {x : Operand} (ho : o.op = .convert s t x) (hs : P.underlying s = some (.slice e)) (he : P.underlying e = some (.int .u8)) (ht : P.underlying t = some .string)
  {vx v : V} (hx : zf g w r.st vx (a.eval x)) (h : (elems r.st vx).bind zE1 = some v) :
  ∃ u,(execOp a.eval o).run P w = .ok (.value u) w ∧ zf g w r.st v u:=by
 rw [yc] at h
 obtain ⟨xs,h1,h2⟩:=h
 unfold zE1 at h2
 rw [yb] at h2
 obtain ⟨ns,h2,rfl⟩:=h2
 have hxs:=znn h2
 have hok : znw 1 xs = true:=by
  rw [hxs]
  clear hxs h2 h1 hx
  induction ns with
  | nil => rfl
  | cons n ns ih => rw [yh,znw,ih]; rfl
 obtain ⟨a',c,news,ex,hlay,hat,hnil⟩:=zg6 R0 hx h1 hok
 have hnews : news = ns.map (Value.int .u8):=by
  refine yr fun i => ?_
  rw [yg]
  cases hi : ns[i]? with
  | none =>
    have : ns.length ≤ i:=List.getElem?_eq_none_iff.1 hi
    have hl:=hlay.1
    rw [hxs] at hl
    simp at hl
    simp
    omega
  | some n =>
    have hxi : xs[i]? = some [.lit (.int .u8 n)]:=by rw [hxs,yg,hi]; rfl
    obtain ⟨u,k1,k2⟩:=hlay.2.2 i _ hxi 0 (.lit (.int .u8 n)) rfl
    simp only [yU,yI] at k1
    rw [k1]
    simp only [rep] at k2
    simp [k2]
 refine ⟨.string (strOf ns),?_,zt (v:=.string (strOf ns)) rfl⟩
 unfold execOp
 simp only [ho,ex]
 have key : (convert s t (.slice a' xs.length c)).run P w = .ok (.string (strOf ns)) w:=by
  cases a' with
  | none =>
    have:=run_convert_bytes_nil (P:=P) w s e hs he xs.length c t ht
    rw [this]
    have hl:=hnil rfl
    have hns : ns = []:=by
     rw [hxs] at hl
     simpa using hl
    rw [hns]
    rfl
  | some ad =>
    have hl : (loadCells ad xs.length).run P w = .ok (ns.map (Value.int .u8)).toArray w:=by
     have:=run_loadCells_list (P:=P) w ad (ns.map (Value.int .u8)) (fun j v hj => by
      rw [← hnews] at hj
      exact hat ad rfl j v hj)
     have e2 : (ns.map (Value.int .u8)).length = xs.length:=by rw [hxs]; simp
     rwa [e2] at this
    rw [run_convert_bytes_string w s t e _ xs.length c hs he ht,run_bytesToString w ad xs.length c ns hl,foldl_push_bytes]
    simp [strOf,ByteArray.empty,ByteArray.emptyWithCapacity]
    rfl
 simp [key]
theorem zxw {op : BinOp} {t yt : TypeId} {x y : Operand} {neg : Bool} (ho : o.op = .binOp op t x y yt) (hop : (op = .eql ∧ neg = false) ∨ (op = .neq ∧ neg = true)) (ht : P.underlying t = some .string)
  {vx vy v : V} (hx : zf g w r.st vx (a.eval x)) (hy : zf g w r.st vy (a.eval y)) (h : zAu neg vx vy = some v) :
  ∃ u,(execOp a.eval o).run P w = .ok (.value u) w ∧ zf g w r.st v u:=by
 unfold zAu at h
 split at h
 ·rename_i p q
  obtain ⟨ex,_⟩:=zA hx
  obtain ⟨ey,_⟩:=zA hy
  injection h with h
  subst h
  rcases hop with ⟨rfl,rfl⟩ | ⟨rfl,rfl⟩
  ·refine ⟨.bool (p.toList == q.toList),?_,zt (v:=.bool (p.toList == q.toList)) rfl⟩
   unfold execOp
   simp only [ho,ex,ey]
   simp [eqGuard,binOp,Op.stringOp]
  ·refine ⟨.bool (!(p.toList == q.toList)),?_,zt (v:=.bool (!(p.toList == q.toList))) rfl⟩
   unfold execOp
   simp only [ho,ex,ey]
   simp [eqGuard,binOp,Op.stringOp]
 ·cases h
end
end Go.A
namespace Go.A
def G.give (g : G) (b : Nat) : G:={ g with N:=fun b' o => g.N b' o ∨ b' = b }
section
variable {P : Program} {κ : List Tmp} {loc : List (Option Tmp)} {nt : Nat} {g : G} {w : World} {r r' : R} {a : Act} {o : Go.Oper} {d : D} {next : Act → World → Prop} {Q : Exit → Act → World → Prop} {σ : zd}
theorem zwV (R : Rel g w σ) {id ver sz : Nat} {es : List (List C)} (hid : σ[id]? = some (.cells ver sz es)) {xs : List (List Fz)} (hf : zaq es = some xs) {n : Nat} {u : Value} (hv : zf g w σ (.one (.own id ver 0 n)) u) :
  ∃ g',Ext g w σ g' w (σ.set id (.cells (ver + 1) sz [])) ∧ Rel g' w (σ.set id (.cells (ver + 1) sz [])) ∧ zf g' w (σ.set id (.cells (ver + 1) sz [])) (vsl (xs.take n)) u:=by
 obtain ⟨ad,c,e1,e2,e3,e4⟩:=zfP hv hid
 obtain ⟨hl,hg⟩:=zeh hf
 have hshape : ∀ ver' sz' len',shapeOf σ id = some (ver',sz',len') → ∃ ver1 len1,shapeOf (σ.set id (.cells (ver + 1) sz [])) id = some (ver1,sz',len1) ∧ ver' < ver1:=by
  intro ver' sz' len' hs
  rw [zn hid] at hs
  injection hs with hs
  injection hs with h1 h2
  injection h2 with h2 h3
  subst h1 h2
  exact ⟨ver + 1,0,by rw [zn (zy hid)]; rfl,by omega⟩
 by_cases hne : es = []
 ·subst hne
  have hxs : xs = []:=ya (by rw [hl]; rfl)
  subst hxs
  have hc:=e3 rfl
  have hn : n = 0:=by omega
  subst hn
  obtain ⟨H,R1⟩:=replace (g':=g) (w':=w) (new:=.cells (ver + 1) sz []) R hid (fun _ => False) rfl rfl rfl (yB _) (fun b hb _ => ⟨rfl,rfl,fun o h => h⟩) (fun b hb => hb.elim) (fun _ _ _ h => h) (fun _ _ => rfl) (fun _ _ _ => rfl)
   R.nb (fun v s l hs => .inr (hshape v s l hs)) (fun _ h => by cases h) (fun k n h => by simp [zlw,hid,Ob.fr] at h) (fun _ _ h => by cases h) (fun _ h => absurd rfl h)
  refine ⟨g,H,R1,?_⟩
  simp only [vsl,zf,zw,rep,List.take_nil]
  exact ⟨ad,c,sz,e1,Nat.zero_le _,trivial,.inl trivial⟩
 ·obtain ⟨k1,k2,arr,t,k3,k4,k5⟩:=R.ob id _ hid hne
  have hb : g.ρ id < w.heap.size:=(yj.1 k3).1
  obtain ⟨H,R1⟩:=replace (g':=g.give (g.ρ id)) (w':=w) (new:=.cells (ver + 1) sz []) R hid (fun b => b = g.ρ id) rfl rfl rfl (yB _) (fun b hb ht => ⟨rfl,rfl,fun o h => h.elim (fun x => x) (fun e => absurd e ht)⟩)
   (fun b hb => ⟨.inl (by rw [hb]; exact k1),rfl,fun o h => absurd (by rw [hb] at h; exact h) (k2 o)⟩) (fun _ _ _ h => .inl h) (fun _ _ => rfl) (fun _ _ _ => rfl)
   (fun b o h => h.elim (R.nb b o) (fun e => by rw [e]; exact hb)) (fun v s l hs => .inr (hshape v s l hs)) (fun _ h => by cases h) (fun k n h => by simp [zlw,hid,Ob.fr] at h) (fun _ _ h => by cases h) (fun _ h => absurd rfl h)
  refine ⟨_,H,R1,?_⟩
  obtain ⟨f1,f2,_⟩:=e4 (by simpa using hne)
  have htl : (xs.take n).length = n:=by rw [yl]; omega
  simp only [vsl,zf,zw,rep]
  have hget : ∀ {i : Nat} {e : List Fz},(xs.take n)[i]? = some e → xs[i]? = some e:=fun h => by
   rw [yd] at h
   split at h
   ·exact h
   ·cases h
  refine ⟨ad,c,sz,by rw [htl]; exact e1,by rw [htl]; exact e2,zdm fun e he => ?_,?_⟩
  ·obtain ⟨i,hi⟩:=ym.1 he
   obtain ⟨e',h1,h2⟩:=hg i e (hget hi)
   rw [(zex h2).1]
   exact (k5 i e' h1).1
  ·by_cases hn : n = 0
   ·exact .inl (by rw [hn]; rfl)
   ·refine .inr ⟨g.ρ id,0,by rw [f2 (by omega)]; simp,zeA fun i e hi => zf3 fun j x hj => ?_⟩
    obtain ⟨e',h1,h2⟩:=hg i e (hget hi)
    obtain ⟨cc,h3,h4⟩:=(zex h2).2 j x hj
    obtain ⟨uu,m1,m2,_⟩:=(k5 i e' h1).2 j cc h3
    refine ⟨uu,.inr rfl,?_,zb6 H.keeps x uu (zfH h4 m2)⟩
    rw [zg2 k3,yS]
    exact m1
theorem zyr (R0 : Rel g w r.st) (L : Low r.base r.lim r.st) (F : Fr κ loc nt g w r a) {x : Operand} {sz : Nat} (ho : o.op = .move x) (hd : okD κ nt o.dst d = true)
  {vx : V} (hx : zf g w r.st vx (a.eval x)) (h : zEa r d sz vx = some r')
  (k : znX κ (zaS o.dst d :: loc) nt g w r r' (a.put o.dst) next) : o.wp P a w next Q:=by
 unfold zEa at h
 split at h
 ·rename_i id ver n
  rw [yc] at h
  obtain ⟨ob,hid,h⟩:=h
  unfold zvj at h
  split at h
  ·rename_i ver' sz' es
   split at h
   ·rename_i hc
    obtain ⟨rfl,rfl⟩:=hc
    rw [yb] at h
    obtain ⟨xs,hf,rfl⟩:=h
    obtain ⟨g',H,R1,hv⟩:=zwV R0 hid hf hx
    exact zaX (r1:=r.setOb id (.cells (ver' + 1) sz' [])) F hd H R1 L.set rfl rfl (zoa (P:=P) (w:=w) (a:=a) (.inl ho)) hv k
   ·cases h
  ·cases h
 ·cases h
end
end Go.A

/- A part of the proof of AffineFinds. Conditions: none. -/
import Derived.Test.YtmkncmffaaninaaGreatXAE
set_option linter.all false
open List renaming eq_nil_of_length_eq_zero → ya,getElem?_take → yb,getElem?_eq_getElem → yf,getElem?_drop → yg,mem_of_mem_take → yi,length_take → yj,map_toArray → yk,map_cons → yl,length_map → ym,getElem?_append → yn,map_nil → yp,ext_getElem? → yr,size_toArray → yt
open Option renaming bind_eq_some_iff → yc
open Nat renaming mul_le_mul_right → yd,add_mul → yh,eq_zero_or_pos → yo,min_eq_left → yv,add_zero → yw
open Array renaming getElem?_toList → ye,length_toList → yq,size_append → yu
namespace Go.A
section
variable {P : Program} {κ : List Tmp} {loc : List (Option Tmp)} {nt : Nat} {g : G} {w : World} {r r' : R} {a : Act} {o : Go.Oper} {d : D} {next : Act → World → Prop} {Q : Exit → Act → World → Prop}
def At (w : World) (b : Option Addr) (vs : List Value) : Prop:=∀ ad,b = some ad → ∀ j v,vs[j]? = some v → w.cell? (ad.add j) = some v
theorem zj1 {t ty e : TypeId} {i : TypeInfo} {z : Value} (o : P.underlying t = some (.slice e)) (q : P.info? e = some i) (l : i.zero = some z) {base j : Option Addr} {sLen sCap n c : Nat} {a news : List Value}
  (h : a.length = sLen * i.size) (holds : At w base a) (u : base = none → sCap = 0) (hle : sLen ≤ sCap) (p : news.length = n * i.size) (f : At w j news) (s : j = none → n = 0)
  (m : sCap < sLen + n) (g : sLen + n ≤ LIM) (k : i.bytes ≤ 32768) :
  (Builtin.append_ #[t,t] ty #[.slice base sLen sCap,.slice j n c]).run P w =
   .ok (.slice (some ⟨w.heap.size,0,none⟩) (sLen + n) (grownCap w (sLen + n) sCap e)) (w.drew.alloc (.cells (a.toArray ++ news.toArray ++ Builtin.zeroCells z.cells (grownCap w (sLen + n) sCap e - (sLen + n))) e)):=by
 unfold LIM at g
 have d : (sLen + n) * i.bytes ≤ 140737488355328:=by
  have r : (sLen + n) * i.bytes ≤ 4294967296 * 32768:=Nat.mul_le_mul g k;omega
 cases j with
 | none => have:=s rfl; omega
 | some ad =>
   cases base with
   | some b => exact run_append_grow w t ty e i z o q l b sLen sCap a h (holds b rfl) ad n c news p (f ad rfl) m (by omega) (growslice_fits m d)
   | none =>
     have v:=u rfl;subst v;have r : sLen = 0:=(by omega);subst r;have x : a = []:=ya (by simpa using h);subst x;have:=run_append_nil w t ty e i z o q l ad n c news p (f ad rfl) (by omega) (by omega) (by rw [Nat.zero_add] at d; omega);simpa using this
theorem zj4 {t ty e : TypeId} {i : TypeInfo} (o : P.underlying t = some (.slice e)) (p : P.info? e = some i) {b off : Nat} {f : Option Addr} {sLen sCap n c : Nat} {news : List Value} {cur : Array Value} {j : TypeId} (r : w.heap[b]? = some (.cells cur j (0,0)))
  (k : news.length = n * i.size) (a : At w f news) (m : f = none → n = 0) (q : ∀ u ∈ news,u.oneCell' = true) (d : sLen + n ≤ sCap) (h : off + sLen * i.size + news.length ≤ cur.size) :
  (Builtin.append_ #[t,t] ty #[.slice (some ⟨b,off,none⟩) sLen sCap,.slice f n c]).run P w = .ok (.slice (some ⟨b,off,none⟩) (sLen + n) sCap) (w.setRow b (zcq cur (off + sLen * i.size) news)):=by
 have l : (Builtin.firstCells i.size n (.slice f n c)).run P w = .ok news.toArray w:=by
  cases f with
  | none =>
    have:=m rfl;subst this;have s : news = []:=ya (by simpa using k);subst s;exact run_firstCells_none w _ _ _ _
  | some ad => exact run_firstCells_some w i.size n ad n c news k (a ad rfl)
 have g:=run_storeCells_at P b (off + sLen * i.size) j news 0 cur w r (by simpa using h) q;simp only [yw] at g;simp [Builtin.append_,run_underlying o,sizeOf,typeInfo,p,Builtin.lenOf,d,l,Addr.add_lit,g,zcq]
theorem zkN {t ty e : TypeId} {i : TypeInfo} (f : P.underlying t = some (.slice e)) (b : P.info? e = some i) {base a : Option Addr} {c0 c : Nat} :
  (Builtin.append_ #[t,t] ty #[.slice base 0 c0,.slice a 0 c]).run P w = .ok (.slice base 0 c0) w:=by
 have d : (Builtin.firstCells i.size 0 (.slice a 0 c)).run P w = .ok #[] w:=by
  cases a with
  | none => exact run_firstCells_none w _ _ _ _
  | some ad => simpa using run_firstCells_some (P:=P) w i.size 0 ad 0 c [] (by simp) (by simp)
 cases base <;> simp [Builtin.append_,run_underlying f,sizeOf,typeInfo,b,Builtin.lenOf,d,storeCells]
theorem zwF {sz : Nat} {xs : List (List Fz)} (h : ztX sz xs = true) : zcs sz xs:=zfs (zlq h)
theorem zjh (R0 : Rel g w r.st) {v : V} {u : Value} {ys : List (List Fz)} {sz : Nat} (M : zh g w r.st v u) (h : elems r.st v = some ys) (q : ztX sz ys = true) :
  ∃ a' c news,u = .slice a' ys.length c ∧ Lay w g.N sz ys news ∧ At w a' news ∧ (a' = none → ys.length = 0):=by
 have frz : rep w g.N (.sl ys) u → ∃ a' c news,u = .slice a' ys.length c ∧ Lay w g.N sz ys news ∧ At w a' news ∧ (a' = none → ys.length = 0):=fun hr => by
  obtain ⟨a',c,I,us,e,_,O,L⟩:=zsf hr fun _ _ h => ztk h;rcases L with rfl | ⟨b,oo,rfl,L⟩
  ·refine ⟨a',c,[],e,⟨by simp,by simp only [zcs],fun i e h => by simp at h⟩,fun ad _ j v h => by simp at h,fun _ => rfl⟩
  ·refine ⟨_,c,us,e,?_,fun ad e1 j v f => ?_,fun h => by cases h⟩
   ·cases ys with
    | nil => exact ⟨by simpa using O.1,by simp only [zcs],fun i e h => by simp at h⟩
    | cons y ys =>
      have e1 : I = sz:=by rw [← zfZ O.2.1 y (by simp),zlq q y (by simp)]
      rwa [e1] at O
   ·injection e1 with e1
    subst e1;rw [zaW];exact L j v f
 unfold elems at h;split at h
 ·rename_i id aC lo n
  rw [yc] at h;obtain ⟨ob,U,B⟩:=h;unfold Ob.frz at B;split at B
  ·rename_i S d es
   split at B
   ·rename_i D
    subst D;obtain ⟨a',c,e1,e2,e3,e4⟩:=zhp M U;obtain ⟨s,C⟩:=zfB B
    by_cases A : es = []
    ·subst A
     have:=e3 rfl;have hn : n = 0:=(by omega);subst hn;simp at s;subst s;exact ⟨a',c,[],e1,⟨by simp,by simp only [zcs],fun i e h => by simp at h⟩,fun ad _ j v h => by simp at h,fun _ => rfl⟩
    ·obtain ⟨f1,f2,arr,t,f3,f4⟩:=e4 fun h => A (ya h)
     obtain ⟨_,_,E,t',m1,m2,W⟩:=R0.ob id _ U A;rw [m1] at f3;injection f3 with f3;injection f3 with f3 _;subst f3;have l : ys.length = n:=by rw [s]; simp; omega
     have o : ∀ i e,((es.drop lo).take n)[i]? = some e → es[lo + i]? = some e:=fun i e p => by
      rw [yb] at p;split at p
      ·rwa [yg] at p
      ·cases p
     have m : ys ≠ [] → d = sz:=fun a => by
      cases ys with
      | nil => exact absurd rfl a
      | cons y ys =>
        obtain ⟨e,H,Q⟩:=C 0 y (by simp);rw [← (W _ e (o 0 e H)).1,← (zgp Q).1];exact zlq q y (by simp)
     refine ⟨a',c,(E.toList.drop (lo * d)).take (n * sz),by rw [l]; exact e1,⟨?_,zwF q,fun i y p j x f => ?_⟩,fun ad k j v f => ?_,fun X => ?_⟩
     ·rw [l,yj,List.length_drop,yq]
      by_cases a : ys = []
      ·have : n = 0:=by rw [← l,a]; rfl
       simp [this]
      ·have P:=m a
       subst P;have : (lo + n) * d ≤ es.length * d:=yd _ f1;rw [yh] at this;omega
     ·have a : ys ≠ []:=fun h => by subst h; simp at p
      have P:=m a;subst P;obtain ⟨e,H,Q⟩:=C i y p;obtain ⟨cc,R,h7⟩:=(zgp Q).2 j x f;obtain ⟨h8,h9⟩:=W _ e (o i e H);obtain ⟨u',Y,q2,Z⟩:=h9 j cc R;refine ⟨u',?_,zhy h7 q2,Z⟩;have aA:=zb p;have J : j < d:=(by have:=zb R; omega);have z:=inside (n:=n) (by omega : i < n) J;rw [yb,if_pos z,yg,ye];rw [yh,Nat.add_assoc] at Y;exact Y
     ·have z:=zb f
      rw [yb] at f;split at f
      ·rw [yg,ye] at f
       have aB : n ≠ 0:=fun G => by subst G; simp at z
       have K : c ≠ 0:=(by omega);rw [f2 K] at k;injection k with k;subst k;rw [zaW,ziJ m1];exact f
      ·cases f
     ·rw [l]
      have : c = 0:=by
       rcases yo c with G | G
       ·exact G
       ·rw [f2 (by omega)] at X; cases X
      omega
   ·cases B
  ·cases B
 ·injection h with h
  subst h;exact frz (zsS M)
 ·injection h with h
  subst h;exact frz (zs5 M)
 ·cases h
theorem zD8 {σ : zd} {t : Nat} {a : Ob} (h : σ[t]? = some a) : σ.set t a = σ:=by
 refine yr fun i => ?_;rw [zwj];split
 ·rename_i b; rw [← b.1]; exact h.symm
 ·rfl
theorem zCk {fr : List Nat} {k n : Nat} (h : fr[k]? = some n) : fr.set k n = fr:=by
 refine yr fun i => ?_;rw [List.getElem?_set];split
 ·rename_i a
  subst a;rw [if_pos (zb h)];exact h.symm
 ·rfl
theorem zzl {sz k n : Nat} {a : Ob} (h : a.front sz k = some n) : ∃ fr,a = .tok sz fr ∧ fr[k]? = some n:=by
 unfold Ob.front at h;split at h
 ·split at h
  ·rename_i e; subst e; exact ⟨_,rfl,h⟩
  ·cases h
 ·cases h
theorem zvZ {N : zgY} {sz : Nat} (e : 0 < sz) {ys : List (List Fz)} {news : List Value} (a : Lay w N sz ys news) : ∀ v ∈ news,v.oneCell' = true:=fun v f => by
 obtain ⟨q,d⟩:=List.mem_iff_getElem?.1 f;have b:=zb d;rw [a.1] at b;have e1 : q / sz < ys.length:=(Nat.div_lt_iff_lt_mul e).2 b;have e2 : q % sz < sz:=Nat.mod_lt _ e;have e3:=zcc a.2.1 (yf e1);obtain ⟨u,c,_,g⟩:=a.2.2 _ _ (yf e1) _ _ (yf (by rw [e3]; exact e2));have e4 : q / sz * sz + q % sz = q:=by rw [Nat.mul_comm]; exact Nat.div_add_mod q sz
 rw [e4,d] at c;injection c with c;rw [c]; exact g
theorem zCH (U : Rel g w r.st) (L : Low r.base r.lim r.st) (F : Fr κ loc nt g w r a) {t e : TypeId} {s x : Operand} {sz : Nat} {i : TypeInfo} {zs : List Value} {ct : Go.Call}
  (ho : o.op = .call ct) (O : ct.callee = .builtin .append) (H : ct.args = #[s,x]) (W : ct.argTypes = #[t,t])
  (hd : okD κ nt o.dst d = true) (ht : P.underlying t = some (.slice e)) (Y : P.info? e = some i) (Z : i.bytes ≤ 32768) (hs : i.size = sz) (h0 : 0 < sz) (hz : zeroOf P e = some zs) (aO : zs.length = sz)
  {C k : Nat} {xs ys : List (List Fz)} (M : zh g w r.st (.one (.ap C k xs)) (a.eval s)) {vx : V} (aH : zh g w r.st vx (a.eval x)) (aE : elems r.st vx = some ys) (aM : ztX sz ys = true)
  {r1 : R} (h : (r.st[C]?).bind (zoY r d sz C k xs ys) = some r1) (kk : zrj κ (zbp o.dst d :: loc) nt g w r r1 (a.put o.dst) next) : o.wp P a w next Q:=by
 subst hs;rw [yc] at h;obtain ⟨ob,f,h⟩:=h;unfold zoY at h;split at h
 ·rename_i hc
  obtain ⟨aL,J⟩:=hc;injection h with h;subst h;obtain ⟨fr,rfl,I⟩:=zzl aL;obtain ⟨iz,z,X,h2,h3⟩:=zc5 hz;rw [Y] at X;injection X with X;subst X;subst h3;have aN : z.cells.size = i.size:=by simpa using aO
  simp only [zh,zF] at M;obtain ⟨m,n,B,_,aP,aS,A,E⟩:=M;rw [zew f I] at B;injection B with B;subst B;rw [zde f] at A;injection A with A;subst A;have hu:=aP rfl;obtain ⟨a',c,news,ex,b,K,p⟩:=zjh U aH aE aM;have u:=zvZ h0 b
  have hexec : ∀ {v' : Value} {w' : World},(Builtin.append_ #[t,t] o.type #[a.eval s,a.eval x]).run P w = .ok v' w' → (execOp a.eval o).run P w = .ok (.value v') w':=fun {v' w'} hr => by
   unfold execOp;simp only [ho,resolve,O,H,W,invoke,builtin,Sem.run_bind,Sem.run_pure,Result.andThen_ok,yk,yl,yp,hr]
  obtain ⟨b0,c0,us,e0,aA,l,aK⟩ : ∃ b0 c0 us,a.eval s = .slice b0 xs.length c0 ∧ xs.length ≤ c0 ∧ Lay w g.N i.size xs us ∧ At w b0 us:=by
   obtain ⟨b0,c0,aF,us,e1,e2,e3,e4⟩:=zsf m fun _ _ h => ztk h;rcases e4 with rfl | ⟨bb,oo,rfl,e5⟩
   ·exact ⟨b0,c0,[],e1,e2,⟨by simp,by simp only [zcs],fun i e h => by simp at h⟩,fun ad _ j v h => by simp at h⟩
   ·refine ⟨_,c0,us,e1,e2,?_,fun ad G j v hj => ?_⟩
    ·cases xs with
     | nil => exact ⟨by simpa using e3.1,by simp only [zcs],fun i e h => by simp at h⟩
     | cons y ys =>
       have e6 : aF = i.size:=by rw [← zfZ e3.2.1 y (by simp),zfZ E y (by simp)]
       rwa [e6] at e3
    ·injection G with G
     subst G;rw [zaW];exact e5 j v hj
  have D:=U.ob C _ f k _ I
  by_cases q : xs.length + ys.length ≤ c0
  ·by_cases hzero : xs.length + ys.length = 0
   ·
    have aI : ys = []:=ya (by omega);have aD : xs = []:=ya (by omega);subst aI aD
    have aG : r.setOb C ((Ob.tok i.size fr).setFront k 0) = r:=by
     have e1 : (Ob.tok i.size fr).setFront k 0 = .tok i.size fr:=by
      show Ob.tok i.size (fr.set k 0) = _
      rw [zCk (by simpa using I)]
     rw [e1];unfold R.setOb;rw [zD8 f]
    have aB : zrj κ (zbp o.dst d :: loc) nt g w r (r.put d (.one (.ap C k []))) (a.put o.dst) next:=by simpa [aG] using kk
    refine znK U L F hd (hexec (v':=.slice b0 0 c0) ?_) ?_ aB
    ·rw [e0,ex]
     exact zkN ht Y
    ·simp only [zh,zF]
     have aC : a.eval s = .slice b0 0 c0:=(by simpa using e0);rw [← aC];exact ⟨m,_,zew f I,Nat.le_refl _,fun _ => hu,_,zde f,E⟩
   ·rcases D with ⟨m0,ma,m1⟩ | ⟨bb,oo,cc,arr,ty,m1,m2,m3,m4,m5,m6,m7⟩
    ·rw [← hu,e0] at m1
     injection m1 with _ _ m1;omega
    ·rw [← hu,e0] at m1
     injection m1 with m1 _ m1c;subst m1 m1c;rw [e0] at m;obtain ⟨aR,aT,g',q1,q2,q3,q4,q5⟩:=zEm U f I (by rw [← hu,e0]) (by omega) m E b q;refine zcy (r1:=r.setOb C (.tok i.size (fr.set k (xs.length + ys.length)))) F hd q3 q4 L.set rfl rfl (hexec ?_) (by simp only [zh]; exact q5) kk;rw [e0,ex];exact zj4 ht Y q1 b.1 K p u q q2
  ·have aJ:=grownCap_ge w (xs.length + ys.length) c0 e
   have aQ : b0 = none → c0 = 0:=fun Z => by
    rcases D with ⟨m0,ma,m1⟩ | ⟨bb,oo,cc,arr,ty,m1,_⟩
    ·rw [← hu,e0] at m1
     injection m1
    ·rw [← hu,e0] at m1
     injection m1 with m1 _ _;rw [Z] at m1;cases m1
   have S:=zj1 (P:=P) (w:=w) (ty:=o.type) ht Y h2 l.1 aK aQ aA (c:=c) b.1 K p (by omega) J Z;obtain ⟨D1,D2⟩:=drawn U 1
   obtain ⟨g',q3,q4,q5⟩:=zEG (e:=e) (c:=grownCap w (xs.length + ys.length) c0 e) (arr:=us.toArray ++ news.toArray ++ Builtin.zeroCells z.cells (grownCap w (xs.length + ys.length) c0 e - (xs.length + ys.length))) D2 f I (l.mono D1.keeps) (b.mono D1.keeps) (by omega) aJ
    ⟨(Builtin.zeroCells z.cells (grownCap w (xs.length + ys.length) c0 e - (xs.length + ys.length))).toList,by simp⟩ (by
      simp only [yu,yt,size_zeroCells,aN,l.1,b.1,← yh]
      congr 1
      omega) (by omega)
   refine zcy (r1:=r.setOb C (.tok i.size (fr.set k (xs.length + ys.length)))) F hd (D1.trans q3) q4 L.set rfl rfl (hexec ?_) (by simp only [zh]; exact q5) kk;rw [e0,ex];exact S
 ·cases h
theorem zGZ (R0 : Rel g w r.st) (L : Low r.base r.lim r.st) (F : Fr κ loc nt g w r a) {t e : TypeId} {s x : Operand} {sz : Nat} {i : TypeInfo} {zs : List Value} {ct : Go.Call}
  (ho : o.op = .call ct) (N : ct.callee = .builtin .append) (G : ct.args = #[s,x]) (S : ct.argTypes = #[t,t])
  (hd : okD κ nt o.dst d = true) (ht : P.underlying t = some (.slice e)) (hi : P.info? e = some i) (hb : i.bytes ≤ 32768) (hs : i.size = sz) (h0 : 0 < sz) (hz : zeroOf P e = some zs) (aO : zs.length = sz)
  {id m n : Nat} {ys : List (List Fz)} (Y : zh g w r.st (.one (.own id m 0 n)) (a.eval s)) {vx : V} (aE : zh g w r.st vx (a.eval x)) (aD : elems r.st vx = some ys) (aH : ztX sz ys = true)
  {r1 : R} (h : (r.st[id]?).bind (zvH r d sz id m n ys) = some r1) (kk : zrj κ (zbp o.dst d :: loc) nt g w r r1 (a.put o.dst) next) : o.wp P a w next Q:=by
 subst hs;rw [yc] at h;obtain ⟨ob,E,h⟩:=h;unfold zvH at h;split at h
 ·rename_i M
  obtain ⟨A,O,aB⟩:=M;injection h with h;subst h;obtain ⟨es,rfl⟩:=zlI A;obtain ⟨iz,z,h1,h2,h3⟩:=zc5 hz;rw [hi] at h1;injection h1 with h1;subst h1;subst h3;have aN : z.cells.size = i.size:=by simpa using aO
  have D:=zhp Y E;obtain ⟨b0,c0,e0,X,y,J⟩:=D;obtain ⟨a',c,news,ex,b,U,l⟩:=zjh R0 aE aD aH;have H:=zvZ h0 b
  have hexec : ∀ {v' : Value} {w' : World},(Builtin.append_ #[t,t] o.type #[a.eval s,a.eval x]).run P w = .ok v' w' → (execOp a.eval o).run P w = .ok (.value v') w':=fun {v' w'} hr => by
   unfold execOp;simp only [ho,resolve,N,G,S,invoke,builtin,Sem.run_bind,Sem.run_pure,Result.andThen_ok,yk,yl,yp,hr]
  have p:=znO (σ:=r.st) b;have aA : (Ob.cells m i.size es).grow n (ys.map fun e => e.map C.f) = .cells (m + 1) i.size (es.take n ++ ys.map fun e => e.map C.f):=rfl;rw [aA] at kk;have K : ∀ aC,Low r.base r.lim (r.setOb id aC).st:=fun aC => L.set
  by_cases B : n + ys.length ≤ c0
  ·have k : es ≠ []:=fun h => by
    have:=y (by rw [h]; rfl);omega
   obtain ⟨arr,ty,q0,q1,q2,q3,q4,q5⟩:=zE8 R0 E k ⟨b0,c0,rfl,X,y,J⟩ (by simpa using b.1) p (by simpa using B) (by simpa using O);subst q0;rw [ym] at q5;refine zcy (r1:=r.setOb id (.cells (m + 1) i.size (es.take n ++ ys.map fun e : List Fz => e.map C.f))) F hd q3 q4 (K _) rfl rfl (hexec ?_) (by simp only [zh]; exact q5) kk;rw [e0,ex];have:=zj4 (P:=P) (w:=w) (ty:=o.type) (off:=0) (sLen:=n) (sCap:=c0) (c:=c) ht hi q1 b.1 U l H B (by simpa using q2);simpa using this
  ·have aM:=grownCap_ge w (n + ys.length) c0 e
   obtain ⟨us,W,aG,Z,aP⟩ : ∃ us,us.length = n * i.size ∧ At w b0 us ∧ zdS g w r.st us.toArray i.size (es.take n) ∧ (b0 = none → c0 = 0):=by
    by_cases k : es = []
    ·have h3:=y (by rw [k]; rfl)
     have h4 : n = 0:=(by omega);subst h4;exact ⟨[],by simp,fun ad _ j v h => by simp at h,fun i e h => by simp at h,fun _ => h3⟩
    ·obtain ⟨f1,f2,arr,ty,f3,f4⟩:=J fun h => k (ya h)
     obtain ⟨_,_,aI,aR,m1,m2,m3⟩:=R0.ob id _ E k;rw [m1] at f3;injection f3 with f3;injection f3 with f3 _;subst f3;have aQ : n * i.size ≤ es.length * i.size:=yd _ (by omega);refine ⟨aI.toList.take (n * i.size),by rw [yj,yq]; omega,fun ad I j v hj => ?_,fun q e hq => ?_,fun hb => ?_⟩
     ·rw [yb] at hj
      split at hj
      ·have M : c0 ≠ 0:=fun h => by
        have h4 : n = 0:=(by omega);subst h4;omega
       rw [f2 M] at I;injection I with I;subst I;rw [zaW,ziJ m1];rw [ye] at hj;simpa using hj
      ·cases hj
     ·rw [yb] at hq
      split at hq
      ·refine ⟨(m3 q e hq).1,fun j c M => ?_⟩
       obtain ⟨u,k1,k2,k3⟩:=(m3 q e hq).2 j c M;have hj : j < i.size:=(by have:=zb M; have:=(m3 q e hq).1; omega);refine ⟨u,?_,k2,k3⟩;rw [List.getElem?_toArray,yb,if_pos (inside (by assumption) hj),ye];exact k1
      ·cases hq
     ·rcases yo c0 with h5 | h5
      ·exact h5
      ·rw [f2 (by omega)] at hb; cases hb
   have aJ : n ≤ es.length:=by
    by_cases k : es = []
    ·have:=y (by rw [k]; rfl); omega
    ·have:=(J fun h => k (ya h)).1; omega
   have aF:=zj1 (P:=P) (w:=w) (ty:=o.type) ht hi h2 W aG aP X (c:=c) b.1 U l (by omega) aB hb;obtain ⟨D1,D2⟩:=drawn R0 1
   obtain ⟨g',q3,q4,q5⟩:=zEC (e:=e) (c:=grownCap w (n + ys.length) c0 e) (arr:=us.toArray ++ news.toArray ++ Builtin.zeroCells z.cells (grownCap w (n + ys.length) c0 e - (n + ys.length))) D2 E aJ W (D1.zdS Z) (by simpa using b.1) (D1.zdS p) (by simpa using aM) (by simpa using O)
    ⟨(Builtin.zeroCells z.cells (grownCap w (n + ys.length) c0 e - (n + ys.length))).toList,by simp⟩ (by
      simp only [yu,yt,size_zeroCells,aN,W,b.1,← yh]
      congr 1
      omega)
   rw [ym] at q5;refine zcy (r1:=r.setOb id (.cells (m + 1) i.size (es.take n ++ ys.map fun e : List Fz => e.map C.f))) F hd (D1.trans q3) q4 (K _) rfl rfl (hexec ?_) (by simp only [zh]; exact q5) kk;rw [e0,ex];exact aF
 ·split at h
  ·rename_i M
   obtain ⟨A,aS⟩:=M;injection h with h;subst h;have aL : ys = []:=ya (by omega);have aK : n = 0:=(by omega);subst aL aK;obtain ⟨es,rfl⟩:=zlI A;have D:=zhp Y E;obtain ⟨b0,c0,e0,X,y,J⟩:=D;obtain ⟨a',c,news,ex,b,U,l⟩:=zjh R0 aE aD aH
   have hexec : ∀ {v' : Value} {w' : World},(Builtin.append_ #[t,t] o.type #[a.eval s,a.eval x]).run P w = .ok v' w' → (execOp a.eval o).run P w = .ok (.value v') w':=fun {v' w'} hr => by
    unfold execOp;simp only [ho,resolve,N,G,S,invoke,builtin,Sem.run_bind,Sem.run_pure,Result.andThen_ok,yk,yl,yp,hr]
   refine znK R0 L F hd (hexec (v':=.slice b0 0 c0) ?_) ?_ kk
   ·rw [e0,ex]
    exact zkN ht hi
   ·rw [← e0]
    exact Y
  ·cases h
theorem zwD {σ : zd} (o : Ob) {v : V} {ys : List (List Fz)} (h : elems σ v = some ys) : elems (σ ++ [o]) v = some ys:=by
 unfold elems at h ⊢;split at h
 ·rw [yc] at h
  obtain ⟨d,b,c⟩:=h;have a:=zb b;simp only [List.getElem?_append_left a,b,Option.bind_some];exact c
 ·exact h
 ·exact h
 ·cases h
theorem zBP (J : Rel g w r.st) (L : Low r.base r.lim r.st) (F : Fr κ loc nt g w r a) {t e : TypeId} {s x : Operand} {sz : Nat} {i : TypeInfo} {K : List Value} {ct : Go.Call}
  (B : o.op = .call ct) (f : ct.callee = .builtin .append) (b : ct.args = #[s,x]) (c : ct.argTypes = #[t,t])
  (hd : okD κ nt o.dst d = true) (y : P.underlying t = some (.slice e)) (D : P.info? e = some i) (z : i.bytes ≤ 32768) (G : i.size = sz) (I : 0 < sz) (v : zeroOf P e = some K) (l : K.length = sz)
  {vs M : V} (q : zh g w r.st vs (a.eval s)) (p : zh g w r.st M (a.eval x))
  {r1 : R} (h : ((elems r.st M).bind fun ys => if ztX sz ys then zFS r d sz ys vs else none) = some r1) (E : zrj κ (zbp o.dst d :: loc) nt g w r r1 (a.put o.dst) next) : o.wp P a w next Q:=by
 rw [yc] at h;obtain ⟨ys,j,h⟩:=h;split at h
 ·rename_i m
  unfold zFS at h;split at h
  ·exact zCH J L F B f b c hd y D z G I v l q p j m h E
  ·exact zGZ J L F B f b c hd y D z G I v l q p j m h E
  ·split at h
   ·rename_i X
    obtain ⟨hu,_⟩:=z7 q
    obtain ⟨H,Z⟩:=zs1 J sz [0] (fun _ => .slice none 0 0) (fun k n C => ⟨by
     cases k with
     | zero => simp at C; exact C.symm
     | succ k => simp at C,none,rfl⟩)
    have A : zh (g.nils r.st.length fun _ => .slice none 0 0) w (r.alloc (.tok sz [0])).st (.one (.ap r.st.length 0 [])) (a.eval s):=by
     rw [hu];simp only [zh];exact zBh (sz:=sz) [0] (by simp) rfl
    refine zCH (r:=r.alloc (.tok sz [0])) (r1:=r1) Z (L.append _) (F.ext H rfl rfl) B f b c hd y D z G I v l A (H.zh _ _ p) (zwD _ j) m ?_ fun U N u S O Y W => E U N u (H.trans S) O Y W;rw [← h];simp [R.alloc,zoY,Ob.front,Ob.setFront,R.setOb,X]
   ·cases h
  ·cases h
 ·cases h
theorem zE1 {σ : zd} (R : Rel g w σ) {id z sz lo : Nat} {es : List (List C)} {ys : List (List Fz)} {news : List Value} (r : σ[id]? = some (.cells z sz es)) (P : es ≠ []) (A : Lay w g.N sz ys news) (h1 : ∀ v ∈ news,v.oneCell' = true) (h0 : 0 < sz) (hle : lo + ys.length ≤ es.length) :
  ∃ arr t,w.heap[g.ρ id]? = some (.cells arr t (0,0)) ∧ lo * sz + news.length ≤ arr.size ∧
    Ext g w σ g (w.setRow (g.ρ id) (zcq arr (lo * sz) news)) (σ.set id (.cells z sz (es.take lo ++ (ys.map (fun e => e.map C.f) ++ es.drop (lo + ys.length))))) ∧
    Rel g (w.setRow (g.ρ id) (zcq arr (lo * sz) news)) (σ.set id (.cells z sz (es.take lo ++ (ys.map (fun e => e.map C.f) ++ es.drop (lo + ys.length))))):=by
 obtain ⟨D,V,arr,t,J,O,s⟩:=R.ob id _ r P;have Z : news.length = ys.length * sz:=A.1
 have l : lo * sz + news.length ≤ arr.size:=by
  have : (lo + ys.length) * sz ≤ es.length * sz:=yd _ hle;rw [yh] at this;omega
 refine ⟨arr,t,J,l,?_⟩;have B:=znO (σ:=σ) A;have X : g.ρ id < w.heap.size:=(Array.getElem?_eq_some_iff.1 J).1
 have y : (es.take lo ++ (ys.map (fun e => e.map C.f) ++ es.drop (lo + ys.length))).length = es.length:=by
  simp;omega
 refine replace (g':=g) R r (fun b => b = g.ρ id) rfl rfl rfl (by simp) (fun b Q ht => ⟨setRow_other w _ _ _ ht,rfl,fun _ h => h⟩)
  (fun b Q => ⟨.inl (by rw [Q]; exact D),rfl,fun o h => absurd (by rw [Q] at h; exact h) (V o)⟩) (fun _ _ _ h => h) (fun _ _ => rfl) (fun _ _ _ => rfl) (fun b o h => by simpa using R.nb b o h) ?_ ?_ ?_ (fun _ _ h => by cases h) ?_
 ·intro W aA S K
  refine .inl ⟨?_,rfl,fun _ Y t0 p => ?_⟩
  ·rw [zC r] at K
   injection K with K;rw [zC (zE r),← K,y]
  ·rw [J] at p
   injection p with p;injection p with p hq1;subst p;subst hq1;exact ⟨_,setRow_heap w _ _ _ _ _ J,zfH l⟩
 ·intro es' h; cases h
 ·intro k n h; simp [zow,r,Ob.fr] at h
 ·intro H U
  refine ⟨D,V,_,t,setRow_heap w _ _ _ _ _ J,by rw [zfH l,y]; exact O,fun i x m => ?_⟩
  have G : ∀ i x,es[i]? = some x → (i < lo ∨ lo + ys.length ≤ i) → x.length = sz ∧ ∀ j c,x[j]? = some c → ∃ u,(zcq arr (lo * sz) news)[i * sz + j]? = some u ∧ zF g (w.setRow (g.ρ id) (zcq arr (lo * sz) news)) (σ.set id (.cells z sz (es.take lo ++ (ys.map (fun e => e.map C.f) ++ es.drop (lo + ys.length))))) c u ∧ u.oneCell' = true:=fun i x m I => by
   refine ⟨(s i x m).1,fun j c E => ?_⟩;obtain ⟨u,a,b,d⟩:=(s i x m).2 j c E;have M : j < sz:=(by have:=zb E; have:=(s i x m).1; omega);refine ⟨u,?_,H.zF c u b,d⟩;rw [zfO l];rcases I with I | I
   ·have:=inside (q:=j) I M
    rw [if_pos (by omega)];exact a
   ·have h2 : (lo + ys.length) * sz ≤ i * sz:=yd _ I
    rw [yh] at h2;rw [if_neg (by omega),if_neg (by omega)];exact a
  rw [yn] at m
  by_cases c1 : i < lo
  ·rw [if_pos (by simp; omega),yb,if_pos c1] at m
   exact G i x m (.inl c1)
  ·rw [if_neg (by simp; omega),yn] at m
   have L : (es.take lo).length = lo:=(by simp; omega);rw [L] at m
   by_cases c2 : i - lo < ys.length
   ·rw [if_pos (by simpa using c2)] at m
    obtain ⟨k1,k2⟩:=B (i - lo) x m;refine ⟨k1,fun j c E => ?_⟩;obtain ⟨u,a,b,d⟩:=k2 j c E;have M : j < sz:=(by have:=zb E; omega);refine ⟨u,?_,H.zF c u b,d⟩;rw [zfO l];have e1 : i * sz = lo * sz + (i - lo) * sz:=(by rw [← yh]; congr 1; omega);have e2:=inside (q:=j) c2 M;rw [if_neg (by omega),if_pos (by omega),show i * sz + j - lo * sz = (i - lo) * sz + j from by omega];simpa using a
   ·rw [if_neg (by simpa using c2),yg] at m
    simp only [ym] at m;rw [show lo + ys.length + (i - lo - ys.length) = i from by omega] at m;exact G i x m (.inr (by omega))
theorem zEL {N : zgY} {sz k : Nat} {ys : List (List Fz)} {news : List Value} (h : Lay w N sz ys news) (n : k ≤ ys.length) : Lay w N sz (ys.take k) (news.take (k * sz)):=by
 obtain ⟨r,o,p⟩:=h;have f : k * sz ≤ ys.length * sz:=yd _ n;refine ⟨by rw [yj,yj,r,yv f,yv n],zfs fun e he => zfZ o e (yi he),fun i e d j x m => ?_⟩;rw [yb] at d;split at d
 ·rename_i g
  obtain ⟨u,a,b,c⟩:=p i e d j x m;have l : j < sz:=by have:=zb m; have:=zcc o d; omega
  have:=inside (q:=j) g l;exact ⟨u,by rw [yb,if_pos this]; exact a,b,c⟩
 ·cases d
theorem zAx (R0 : Rel g w r.st) (L : Low r.base r.lim r.st) (F : Fr κ loc nt g w r a) {t t' e : TypeId} {x y : Operand} {sz : Nat} {ct : Go.Call}
  (ho : o.op = .call ct) (s : ct.callee = .builtin .copy) (q : ct.args = #[x,y]) (E : ct.argTypes = #[t,t'])
  (hd : okD κ nt o.dst d = true) (ht : P.underlying t = some (.slice e)) (S : zjg P e = some sz) (h0 : 0 < sz)
  {vx vy : V} (W : zh g w r.st vx (a.eval x)) (O : zh g w r.st vy (a.eval y))
  {r1 : R} (h : ((elems r.st vy).bind fun ys => if ztX sz ys then zHd r d sz ys vx else none) = some r1) (kk : zrj κ (zbp o.dst d :: loc) nt g w r r1 (a.put o.dst) next) : o.wp P a w next Q:=by
 rw [yc] at h;obtain ⟨ys,U,h⟩:=h;split at h
 ·rename_i Z
  unfold zHd at h;split at h
  ·rename_i id aE lo n
   split at h
   ·cases h
   ·rename_i aD
    rw [yc] at h;obtain ⟨ob,D,h⟩:=h
    cases ob with
    | tok _ _ => simp [zkf] at h
    | mp _ => simp [zkf] at h
    | cells ver' sz' es =>
      simp only [zkf] at h;split at h
      ·rename_i hc
       obtain ⟨rfl,rfl,hle⟩:=hc;injection h with h;subst h;have C:=zhp W D;obtain ⟨b0,c0,e0,aB,aA,Y⟩:=C;obtain ⟨a',c,news,ex,i,K,k⟩:=zjh R0 O U Z;have b:=zvZ h0 i
       have G : es ≠ []:=fun h => by
        rw [h,List.length_nil] at hle;omega
       have p : es.length ≠ 0:=fun h => G (ya h);obtain ⟨aC,N,_⟩:=Y p;have hb:=N (by omega);subst hb;have hk : min ys.length n ≤ ys.length:=Nat.min_le_left _ _;have f:=zEL i hk;have l : (ys.take (min ys.length n)).length = min ys.length n:=(by simp);obtain ⟨arr,ty,hh,z,H,R1⟩:=zE1 (lo:=lo) R0 D G f (fun v X => b v (yi X)) h0 (by rw [l]; exact hle);rw [l] at H R1
       obtain ⟨ad,rfl⟩ : ∃ ad,a' = some ad:=by
        cases a' with
        | none => have:=k rfl; omega
        | some ad => exact ⟨ad,rfl⟩
       have J : (news.take (min ys.length n * sz')).length = min ys.length n * sz':=by rw [f.1,l]
       have m : (loadCells ad (min ys.length n * sz')).run P w = .ok (news.take (min ys.length n * sz')).toArray w:=by
        have:=run_loadCells_list (P:=P) w ad (news.take (min ys.length n * sz')) (fun j v I => by
         rw [yb] at I;split at I
         ·exact K ad rfl j v I
         ·cases I)
        rwa [J] at this
       have u:=run_storeCells_at P (g.ρ id) (lo * sz') ty (news.take (min ys.length n * sz')) 0 arr w hh (by simpa using z) (fun v X => b v (yi X));simp only [yw] at u
       have A : (execOp a.eval o).run P w = .ok (.value (goInt (min ys.length n : Nat))) (w.setRow (g.ρ id) (zcq arr (lo * sz') (news.take (min ys.length n * sz')))):=by
        unfold zjg at S
        cases hq : P.info? e with
        | none => simp [hq] at S
        | some inf =>
          have M : inf.size = sz':=(by simpa [hq] using S);have B : Nat.min ys.length n = min ys.length n:=rfl;unfold execOp;simp only [ho,resolve,s,q,E,invoke,builtin,Sem.run_bind,Sem.run_pure,Result.andThen_ok,yk,yl,yp,e0,ex];simp [Builtin.copy_,run_underlying ht,Builtin.lenOf,Builtin.firstCells,sizeOf,typeInfo,hq,M,B,m,u,zcq]
       refine zcy (r1:=r.setOb id _) F hd H R1 L.set rfl rfl A ?_ kk;exact zae rfl
      ·cases h
  ·cases h
 ·cases h
end
end Go.A

/- A part of the proof of SchedTells. Conditions: none. -/
import Derived.Test.YtmkncmffaaninaaGreatTAE
set_option linter.all false
open List renaming eq_nil_of_length_eq_zero → ya,getElem?_take → yb,getElem?_eq_getElem → yf,getElem?_drop → yg,mem_of_mem_take → yi,length_take → yj,map_toArray → yk,map_cons → yl,length_map → ym,getElem?_append → yn,map_nil → yp,ext_getElem? → yr,size_toArray → yt
open Option renaming bind_eq_some_iff → yc
open Nat renaming mul_le_mul_right → yd,add_mul → yh,eq_zero_or_pos → yo,min_eq_left → yv,add_zero → yw
open Array renaming getElem?_toList → ye,length_toList → yq,size_append → yu
namespace Go.A
section
variable {P : Program} {κ : List Tmp} {loc : List (Option Tmp)} {nt : Nat} {g : G} {w : World} {r r' : R} {a : Act} {o : Go.Oper} {d : D} {next : Act → World → Prop} {Q : Exit → Act → World → Prop}
def At (w : World) (b : Option Addr) (vs : List Value) : Prop:=∀ ad,b = some ad → ∀ j v,vs[j]? = some v → w.cell? (ad.add j) = some v
theorem zkb {t ty e : TypeId} {i : TypeInfo} {z : Value} (o : P.underlying t = some (.slice e)) (r : P.info? e = some i) (q : i.zero = some z) {base j : Option Addr} {sLen sCap n c : Nat} {a news : List Value}
  (h : a.length = sLen * i.size) (holds : At w base a) (u : base = none → sCap = 0) (hle : sLen ≤ sCap) (l : news.length = n * i.size) (f : At w j news) (s : j = none → n = 0)
  (p : sCap < sLen + n) (g : sLen + n ≤ LIM) (k : i.bytes ≤ 32768) :
  (Builtin.append_ #[t,t] ty #[.slice base sLen sCap,.slice j n c]).run P w =
   .ok (.slice (some ⟨w.heap.size,0,none⟩) (sLen + n) (grownCap w (sLen + n) sCap e)) (w.drew.alloc (.cells (a.toArray ++ news.toArray ++ Builtin.zeroCells z.cells (grownCap w (sLen + n) sCap e - (sLen + n))) e)):=by
 unfold LIM at g
 have d : (sLen + n) * i.bytes ≤ 140737488355328:=by
  have m : (sLen + n) * i.bytes ≤ 4294967296 * 32768:=Nat.mul_le_mul g k;omega
 cases j with
 | none => have:=s rfl; omega
 | some ad =>
   cases base with
   | some b => exact run_append_grow w t ty e i z o r q b sLen sCap a h (holds b rfl) ad n c news l (f ad rfl) p (by omega) (growslice_fits p d)
   | none =>
     have x:=u rfl;subst x;have m : sLen = 0:=(by omega);subst m;have v : a = []:=ya (by simpa using h);subst v;have:=run_append_nil w t ty e i z o r q ad n c news l (f ad rfl) (by omega) (by omega) (by rw [Nat.zero_add] at d; omega);simpa using this
theorem zj9 {t ty e : TypeId} {i : TypeInfo} (m : P.underlying t = some (.slice e)) (r : P.info? e = some i) {b off : Nat} {g : Option Addr} {sLen sCap n c : Nat} {news : List Value} {cur : Array Value} {k : TypeId} (s : w.heap[b]? = some (.cells cur k (0,0)))
  (j : news.length = n * i.size) (a : At w g news) (o : g = none → n = 0) (l : ∀ u ∈ news,u.oneCell' = true) (d : sLen + n ≤ sCap) (f : off + sLen * i.size + news.length ≤ cur.size) :
  (Builtin.append_ #[t,t] ty #[.slice (some ⟨b,off,none⟩) sLen sCap,.slice g n c]).run P w = .ok (.slice (some ⟨b,off,none⟩) (sLen + n) sCap) (w.setRow b (zdr cur (off + sLen * i.size) news)):=by
 have p : (Builtin.firstCells i.size n (.slice g n c)).run P w = .ok news.toArray w:=by
  cases g with
  | none =>
    have:=o rfl;subst this;have q : news = []:=ya (by simpa using j);subst q;exact run_firstCells_none w _ _ _ _
  | some ad => exact run_firstCells_some w i.size n ad n c news j (a ad rfl)
 have h:=run_storeCells_at P b (off + sLen * i.size) k news 0 cur w s (by simpa using f) l;simp only [yw] at h;simp [Builtin.append_,run_underlying m,sizeOf,typeInfo,r,Builtin.lenOf,d,p,Addr.add_lit,h,zdr]
theorem zk5 {t ty e : TypeId} {i : TypeInfo} (d : P.underlying t = some (.slice e)) (f : P.info? e = some i) {base a : Option Addr} {c0 c : Nat} :
  (Builtin.append_ #[t,t] ty #[.slice base 0 c0,.slice a 0 c]).run P w = .ok (.slice base 0 c0) w:=by
 have b : (Builtin.firstCells i.size 0 (.slice a 0 c)).run P w = .ok #[] w:=by
  cases a with
  | none => exact run_firstCells_none w _ _ _ _
  | some ad => simpa using run_firstCells_some (P:=P) w i.size 0 ad 0 c [] (by simp) (by simp)
 cases base <;> simp [Builtin.append_,run_underlying d,sizeOf,typeInfo,f,Builtin.lenOf,b,storeCells]
theorem zwa {sz : Nat} {xs : List (List Fz)} (h : zoV sz xs = true) : zb9 sz xs:=zfK (zls h)
theorem zjQ (R0 : Rel g w r.st) {v : V} {u : Value} {ys : List (List Fz)} {sz : Nat} (J : zf g w r.st v u) (h : elems r.st v = some ys) (A : zoV sz ys = true) :
  ∃ a' c news,u = .slice a' ys.length c ∧ Lay w g.N sz ys news ∧ At w a' news ∧ (a' = none → ys.length = 0):=by
 have frz : rep w g.N (.sl ys) u → ∃ a' c news,u = .slice a' ys.length c ∧ Lay w g.N sz ys news ∧ At w a' news ∧ (a' = none → ys.length = 0):=fun hr => by
  obtain ⟨a',c,Q,us,e,_,H,M⟩:=zoc hr fun _ _ h => zqb h;rcases M with rfl | ⟨b,oo,rfl,M⟩
  ·refine ⟨a',c,[],e,⟨by simp,by simp only [zb9],fun i e h => by simp at h⟩,fun ad _ j v h => by simp at h,fun _ => rfl⟩
  ·refine ⟨_,c,us,e,?_,fun ad e1 j v f => ?_,fun h => by cases h⟩
   ·cases ys with
    | nil => exact ⟨by simpa using H.1,by simp only [zb9],fun i e h => by simp at h⟩
    | cons y ys =>
      have e1 : Q = sz:=by rw [← zf7 H.2.1 y (by simp),zls A y (by simp)]
      rwa [e1] at H
   ·injection e1 with e1
    subst e1;rw [zaR];exact M j v f
 unfold elems at h;split at h
 ·rename_i id aA lo n
  rw [yc] at h;obtain ⟨ob,U,B⟩:=h;unfold Ob.frz at B;split at B
  ·rename_i R d es
   split at B
   ·rename_i E
    subst E;obtain ⟨a',c,e1,e2,e3,e4⟩:=zhl J U;obtain ⟨q,D⟩:=zfY B
    by_cases z : es = []
    ·subst z
     have:=e3 rfl;have hn : n = 0:=(by omega);subst hn;simp at q;subst q;exact ⟨a',c,[],e1,⟨by simp,by simp only [zb9],fun i e h => by simp at h⟩,fun ad _ j v h => by simp at h,fun _ => rfl⟩
    ·obtain ⟨f1,f2,arr,t,f3,f4⟩:=e4 fun h => z (ya h)
     obtain ⟨_,_,C,t',m1,m2,W⟩:=R0.ob id _ U z;rw [m1] at f3;injection f3 with f3;injection f3 with f3 _;subst f3;have k : ys.length = n:=by rw [q]; simp; omega
     have m : ∀ i e,((es.drop lo).take n)[i]? = some e → es[lo + i]? = some e:=fun i e o => by
      rw [yb] at o;split at o
      ·rwa [yg] at o
      ·cases o
     have p : ys ≠ [] → d = sz:=fun a => by
      cases ys with
      | nil => exact absurd rfl a
      | cons y ys =>
        obtain ⟨e,K,P⟩:=D 0 y (by simp);rw [← (W _ e (m 0 e K)).1,← (zgA P).1];exact zls A y (by simp)
     refine ⟨a',c,(C.toList.drop (lo * d)).take (n * sz),by rw [k]; exact e1,⟨?_,zwa A,fun i y o j x f => ?_⟩,fun ad l j v f => ?_,fun X => ?_⟩
     ·rw [k,yj,List.length_drop,yq]
      by_cases a : ys = []
      ·have : n = 0:=by rw [← k,a]; rfl
       simp [this]
      ·have L:=p a
       subst L;have : (lo + n) * d ≤ es.length * d:=yd _ f1;rw [yh] at this;omega
     ·have a : ys ≠ []:=fun h => by subst h; simp at o
      have L:=p a;subst L;obtain ⟨e,K,P⟩:=D i y o;obtain ⟨cc,S,h7⟩:=(zgA P).2 j x f;obtain ⟨h8,h9⟩:=W _ e (m i e K);obtain ⟨Z,Y,q2,q3⟩:=h9 j cc S;refine ⟨Z,?_,zhE h7 q2,q3⟩;have aC:=zb o;have I : j < d:=(by have:=zb S; omega);have s:=inside (n:=n) (by omega : i < n) I;rw [yb,if_pos s,yg,ye];rw [yh,Nat.add_assoc] at Y;exact Y
     ·have s:=zb f
      rw [yb] at f;split at f
      ·rw [yg,ye] at f
       have aB : n ≠ 0:=fun G => by subst G; simp at s
       have O : c ≠ 0:=(by omega);rw [f2 O] at l;injection l with l;subst l;rw [zaR,ziQ m1];exact f
      ·cases f
     ·rw [k]
      have : c = 0:=by
       rcases yo c with G | G
       ·exact G
       ·rw [f2 (by omega)] at X; cases X
      omega
   ·cases B
  ·cases B
 ·injection h with h
  subst h;exact frz (zs4 J)
 ·injection h with h
  subst h;exact frz (ztC J)
 ·cases h
theorem zCn {σ : zd} {t : Nat} {a : Ob} (h : σ[t]? = some a) : σ.set t a = σ:=by
 refine yr fun i => ?_;rw [zA3];split
 ·rename_i b; rw [← b.1]; exact h.symm
 ·rfl
theorem zBe {fr : List Nat} {k n : Nat} (h : fr[k]? = some n) : fr.set k n = fr:=by
 refine yr fun i => ?_;rw [List.getElem?_set];split
 ·rename_i a
  subst a;rw [if_pos (zb h)];exact h.symm
 ·rfl
theorem zx4 {sz k n : Nat} {a : Ob} (h : a.front sz k = some n) : ∃ fr,a = .tok sz fr ∧ fr[k]? = some n:=by
 unfold Ob.front at h;split at h
 ·split at h
  ·rename_i e; subst e; exact ⟨_,rfl,h⟩
  ·cases h
 ·cases h
theorem zsH {N : zgU} {sz : Nat} (e : 0 < sz) {ys : List (List Fz)} {news : List Value} (a : Lay w N sz ys news) : ∀ v ∈ news,v.oneCell' = true:=fun v g => by
 obtain ⟨q,d⟩:=List.mem_iff_getElem?.1 g;have b:=zb d;rw [a.1] at b;have e1 : q / sz < ys.length:=(Nat.div_lt_iff_lt_mul e).2 b;have e2 : q % sz < sz:=Nat.mod_lt _ e;have e3:=zcb a.2.1 (yf e1);obtain ⟨u,c,_,f⟩:=a.2.2 _ _ (yf e1) _ _ (yf (by rw [e3]; exact e2));have e4 : q / sz * sz + q % sz = q:=by rw [Nat.mul_comm]; exact Nat.div_add_mod q sz
 rw [e4,d] at c;injection c with c;rw [c]; exact f
theorem zBU (S : Rel g w r.st) (L : Low r.base r.lim r.st) (F : Fr κ loc nt g w r a) {t e : TypeId} {s x : Operand} {sz : Nat} {i : TypeInfo} {zs : List Value} {ct : Go.Call}
  (ho : o.op = .call ct) (U : ct.callee = .builtin .append) (E : ct.args = #[s,x]) (K : ct.argTypes = #[t,t])
  (hd : okD κ nt o.dst d = true) (Z : P.underlying t = some (.slice e)) (Y : P.info? e = some i) (hb : i.bytes ≤ 32768) (hs : i.size = sz) (h0 : 0 < sz) (hz : zeroOf P e = some zs) (aJ : zs.length = sz)
  {C k : Nat} {xs ys : List (List Fz)} (J : zf g w r.st (.one (.ap C k xs)) (a.eval s)) {vx : V} (aM : zf g w r.st vx (a.eval x)) (aN : elems r.st vx = some ys) (aC : zoV sz ys = true)
  {r1 : R} (h : (r.st[C]?).bind (zoW r d sz C k xs ys) = some r1) (kk : zpJ κ (zbg o.dst d :: loc) nt g w r r1 (a.put o.dst) next) : o.wp P a w next Q:=by
 subst hs;rw [yc] at h;obtain ⟨ob,f,h⟩:=h;unfold zoW at h;split at h
 ·rename_i hc
  obtain ⟨aP,W⟩:=hc;injection h with h;subst h;obtain ⟨fr,rfl,I⟩:=zx4 aP;obtain ⟨iz,z,X,h2,h3⟩:=zdN hz;rw [Y] at X;injection X with X;subst X;subst h3;have aA : z.cells.size = i.size:=by simpa using aJ
  simp only [zf,zz] at J;obtain ⟨m,n,B,_,aK,aT,A,H⟩:=J;rw [zd3 f I] at B;injection B with B;subst B;rw [zct f] at A;injection A with A;subst A;have hu:=aK rfl;obtain ⟨a',c,news,ex,b,O,p⟩:=zjQ S aM aN aC;have u:=zsH h0 b
  have hexec : ∀ {v' : Value} {w' : World},(Builtin.append_ #[t,t] o.type #[a.eval s,a.eval x]).run P w = .ok v' w' → (execOp a.eval o).run P w = .ok (.value v') w':=fun {v' w'} hr => by
   unfold execOp;simp only [ho,resolve,U,E,K,invoke,builtin,Sem.run_bind,Sem.run_pure,Result.andThen_ok,yk,yl,yp,hr]
  obtain ⟨b0,c0,us,e0,aO,l,aD⟩ : ∃ b0 c0 us,a.eval s = .slice b0 xs.length c0 ∧ xs.length ≤ c0 ∧ Lay w g.N i.size xs us ∧ At w b0 us:=by
   obtain ⟨b0,c0,aI,us,e1,e2,e3,e4⟩:=zoc m fun _ _ h => zqb h;rcases e4 with rfl | ⟨bb,oo,rfl,e5⟩
   ·exact ⟨b0,c0,[],e1,e2,⟨by simp,by simp only [zb9],fun i e h => by simp at h⟩,fun ad _ j v h => by simp at h⟩
   ·refine ⟨_,c0,us,e1,e2,?_,fun ad G j v hj => ?_⟩
    ·cases xs with
     | nil => exact ⟨by simpa using e3.1,by simp only [zb9],fun i e h => by simp at h⟩
     | cons y ys =>
       have e6 : aI = i.size:=by rw [← zf7 e3.2.1 y (by simp),zf7 H y (by simp)]
       rwa [e6] at e3
    ·injection G with G
     subst G;rw [zaR];exact e5 j v hj
  have D:=S.ob C _ f k _ I
  by_cases q : xs.length + ys.length ≤ c0
  ·by_cases hzero : xs.length + ys.length = 0
   ·
    have aB : ys = []:=ya (by omega);have aL : xs = []:=ya (by omega);subst aB aL
    have aH : r.setOb C ((Ob.tok i.size fr).setFront k 0) = r:=by
     have e1 : (Ob.tok i.size fr).setFront k 0 = .tok i.size fr:=by
      show Ob.tok i.size (fr.set k 0) = _
      rw [zBe (by simpa using I)]
     rw [e1];unfold R.setOb;rw [zCn f]
    have aG : zpJ κ (zbg o.dst d :: loc) nt g w r (r.put d (.one (.ap C k []))) (a.put o.dst) next:=by simpa [aH] using kk
    refine zmW S L F hd (hexec (v':=.slice b0 0 c0) ?_) ?_ aG
    ·rw [e0,ex]
     exact zk5 Z Y
    ·simp only [zf,zz]
     have aE : a.eval s = .slice b0 0 c0:=(by simpa using e0);rw [← aE];exact ⟨m,_,zd3 f I,Nat.le_refl _,fun _ => hu,_,zct f,H⟩
   ·rcases D with ⟨m0,ma,m1⟩ | ⟨bb,oo,cc,arr,ty,m1,m2,m3,m4,m5,m6,m7⟩
    ·rw [← hu,e0] at m1
     injection m1 with _ _ m1;omega
    ·rw [← hu,e0] at m1
     injection m1 with m1 _ m1c;subst m1 m1c;rw [e0] at m;obtain ⟨aR,aS,g',q1,q2,q3,q4,q5⟩:=zEc S f I (by rw [← hu,e0]) (by omega) m H b q;refine zbP (r1:=r.setOb C (.tok i.size (fr.set k (xs.length + ys.length)))) F hd q3 q4 L.set rfl rfl (hexec ?_) (by simp only [zf]; exact q5) kk;rw [e0,ex];exact zj9 Z Y q1 b.1 O p u q q2
  ·have aF:=grownCap_ge w (xs.length + ys.length) c0 e
   have aQ : b0 = none → c0 = 0:=fun hb => by
    rcases D with ⟨m0,ma,m1⟩ | ⟨bb,oo,cc,arr,ty,m1,_⟩
    ·rw [← hu,e0] at m1
     injection m1
    ·rw [← hu,e0] at m1
     injection m1 with m1 _ _;rw [hb] at m1;cases m1
   have M:=zkb (P:=P) (w:=w) (ty:=o.type) Z Y h2 l.1 aD aQ aO (c:=c) b.1 O p (by omega) W hb;obtain ⟨D1,D2⟩:=drawn S 1
   obtain ⟨g',q3,q4,q5⟩:=zCl (e:=e) (c:=grownCap w (xs.length + ys.length) c0 e) (arr:=us.toArray ++ news.toArray ++ Builtin.zeroCells z.cells (grownCap w (xs.length + ys.length) c0 e - (xs.length + ys.length))) D2 f I (l.mono D1.keeps) (b.mono D1.keeps) (by omega) aF
    ⟨(Builtin.zeroCells z.cells (grownCap w (xs.length + ys.length) c0 e - (xs.length + ys.length))).toList,by simp⟩ (by
      simp only [yu,yt,size_zeroCells,aA,l.1,b.1,← yh]
      congr 1
      omega) (by omega)
   refine zbP (r1:=r.setOb C (.tok i.size (fr.set k (xs.length + ys.length)))) F hd (D1.trans q3) q4 L.set rfl rfl (hexec ?_) (by simp only [zf]; exact q5) kk;rw [e0,ex];exact M
 ·cases h
theorem zE0 (R0 : Rel g w r.st) (L : Low r.base r.lim r.st) (F : Fr κ loc nt g w r a) {t e : TypeId} {s x : Operand} {sz : Nat} {i : TypeInfo} {zs : List Value} {ct : Go.Call}
  (ho : o.op = .call ct) (O : ct.callee = .builtin .append) (p : ct.args = #[s,x]) (K : ct.argTypes = #[t,t])
  (hd : okD κ nt o.dst d = true) (ht : P.underlying t = some (.slice e)) (hi : P.info? e = some i) (hb : i.bytes ≤ 32768) (hs : i.size = sz) (h0 : 0 < sz) (hz : zeroOf P e = some zs) (aM : zs.length = sz)
  {id m n : Nat} {ys : List (List Fz)} (U : zf g w r.st (.one (.own id m 0 n)) (a.eval s)) {vx : V} (aE : zf g w r.st vx (a.eval x)) (aF : elems r.st vx = some ys) (aB : zoV sz ys = true)
  {r1 : R} (h : (r.st[id]?).bind (zvq r d sz id m n ys) = some r1) (kk : zpJ κ (zbg o.dst d :: loc) nt g w r r1 (a.put o.dst) next) : o.wp P a w next Q:=by
 subst hs;rw [yc] at h;obtain ⟨ob,E,h⟩:=h;unfold zvq at h;split at h
 ·rename_i N
  obtain ⟨y,M,aI⟩:=N;injection h with h;subst h;obtain ⟨es,rfl⟩:=zlv y;obtain ⟨iz,z,h1,h2,h3⟩:=zdN hz;rw [hi] at h1;injection h1 with h1;subst h1;subst h3;have aJ : z.cells.size = i.size:=by simpa using aM
  have B:=zhl U E;obtain ⟨b0,c0,e0,aA,A,J⟩:=B;obtain ⟨a',c,news,ex,b,X,l⟩:=zjQ R0 aE aF aB;have H:=zsH h0 b
  have hexec : ∀ {v' : Value} {w' : World},(Builtin.append_ #[t,t] o.type #[a.eval s,a.eval x]).run P w = .ok v' w' → (execOp a.eval o).run P w = .ok (.value v') w':=fun {v' w'} hr => by
   unfold execOp;simp only [ho,resolve,O,p,K,invoke,builtin,Sem.run_bind,Sem.run_pure,Result.andThen_ok,yk,yl,yp,hr]
  have G:=zjZ (σ:=r.st) b;have Y : (Ob.cells m i.size es).grow n (ys.map fun e => e.map C.f) = .cells (m + 1) i.size (es.take n ++ ys.map fun e => e.map C.f):=rfl;rw [Y] at kk;have S : ∀ aH,Low r.base r.lim (r.setOb id aH).st:=fun aH => L.set
  by_cases D : n + ys.length ≤ c0
  ·have k : es ≠ []:=fun h => by
    have:=A (by rw [h]; rfl);omega
   obtain ⟨arr,ty,q0,q1,q2,q3,q4,q5⟩:=zCQ R0 E k ⟨b0,c0,rfl,aA,A,J⟩ (by simpa using b.1) G (by simpa using D) (by simpa using M);subst q0;rw [ym] at q5;refine zbP (r1:=r.setOb id (.cells (m + 1) i.size (es.take n ++ ys.map fun e : List Fz => e.map C.f))) F hd q3 q4 (S _) rfl rfl (hexec ?_) (by simp only [zf]; exact q5) kk;rw [e0,ex];have:=zj9 (P:=P) (w:=w) (ty:=o.type) (off:=0) (sLen:=n) (sCap:=c0) (c:=c) ht hi q1 b.1 X l H D (by simpa using q2);simpa using this
  ·have aL:=grownCap_ge w (n + ys.length) c0 e
   obtain ⟨us,W,aG,Z,aP⟩ : ∃ us,us.length = n * i.size ∧ At w b0 us ∧ zci g w r.st us.toArray i.size (es.take n) ∧ (b0 = none → c0 = 0):=by
    by_cases k : es = []
    ·have h3:=A (by rw [k]; rfl)
     have h4 : n = 0:=(by omega);subst h4;exact ⟨[],by simp,fun ad _ j v h => by simp at h,fun i e h => by simp at h,fun _ => h3⟩
    ·obtain ⟨f1,f2,arr,ty,f3,f4⟩:=J fun h => k (ya h)
     obtain ⟨_,_,aD,aS,m1,m2,m3⟩:=R0.ob id _ E k;rw [m1] at f3;injection f3 with f3;injection f3 with f3 _;subst f3;have aQ : n * i.size ≤ es.length * i.size:=yd _ (by omega);refine ⟨aD.toList.take (n * i.size),by rw [yj,yq]; omega,fun ad I j v hj => ?_,fun q e hq => ?_,fun hb => ?_⟩
     ·rw [yb] at hj
      split at hj
      ·have N : c0 ≠ 0:=fun h => by
        have h4 : n = 0:=(by omega);subst h4;omega
       rw [f2 N] at I;injection I with I;subst I;rw [zaR,ziQ m1];rw [ye] at hj;simpa using hj
      ·cases hj
     ·rw [yb] at hq
      split at hq
      ·refine ⟨(m3 q e hq).1,fun j c N => ?_⟩
       obtain ⟨u,k1,k2,k3⟩:=(m3 q e hq).2 j c N;have hj : j < i.size:=(by have:=zb N; have:=(m3 q e hq).1; omega);refine ⟨u,?_,k2,k3⟩;rw [List.getElem?_toArray,yb,if_pos (inside (by assumption) hj),ye];exact k1
      ·cases hq
     ·rcases yo c0 with h5 | h5
      ·exact h5
      ·rw [f2 (by omega)] at hb; cases hb
   have aN : n ≤ es.length:=by
    by_cases k : es = []
    ·have:=A (by rw [k]; rfl); omega
    ·have:=(J fun h => k (ya h)).1; omega
   have aC:=zkb (P:=P) (w:=w) (ty:=o.type) ht hi h2 W aG aP aA (c:=c) b.1 X l (by omega) aI hb;obtain ⟨D1,D2⟩:=drawn R0 1
   obtain ⟨g',q3,q4,q5⟩:=zDG (e:=e) (c:=grownCap w (n + ys.length) c0 e) (arr:=us.toArray ++ news.toArray ++ Builtin.zeroCells z.cells (grownCap w (n + ys.length) c0 e - (n + ys.length))) D2 E aN W (D1.zci Z) (by simpa using b.1) (D1.zci G) (by simpa using aL) (by simpa using M)
    ⟨(Builtin.zeroCells z.cells (grownCap w (n + ys.length) c0 e - (n + ys.length))).toList,by simp⟩ (by
      simp only [yu,yt,size_zeroCells,aJ,W,b.1,← yh]
      congr 1
      omega)
   rw [ym] at q5;refine zbP (r1:=r.setOb id (.cells (m + 1) i.size (es.take n ++ ys.map fun e : List Fz => e.map C.f))) F hd (D1.trans q3) q4 (S _) rfl rfl (hexec ?_) (by simp only [zf]; exact q5) kk;rw [e0,ex];exact aC
 ·split at h
  ·rename_i N
   obtain ⟨y,aR⟩:=N;injection h with h;subst h;have aK : ys = []:=ya (by omega);have aO : n = 0:=(by omega);subst aK aO;obtain ⟨es,rfl⟩:=zlv y;have B:=zhl U E;obtain ⟨b0,c0,e0,aA,A,J⟩:=B;obtain ⟨a',c,news,ex,b,X,l⟩:=zjQ R0 aE aF aB
   have hexec : ∀ {v' : Value} {w' : World},(Builtin.append_ #[t,t] o.type #[a.eval s,a.eval x]).run P w = .ok v' w' → (execOp a.eval o).run P w = .ok (.value v') w':=fun {v' w'} hr => by
    unfold execOp;simp only [ho,resolve,O,p,K,invoke,builtin,Sem.run_bind,Sem.run_pure,Result.andThen_ok,yk,yl,yp,hr]
   refine zmW R0 L F hd (hexec (v':=.slice b0 0 c0) ?_) ?_ kk
   ·rw [e0,ex]
    exact zk5 ht hi
   ·rw [← e0]
    exact U
  ·cases h
theorem zwu {σ : zd} (o : Ob) {v : V} {ys : List (List Fz)} (h : elems σ v = some ys) : elems (σ ++ [o]) v = some ys:=by
 unfold elems at h ⊢;split at h
 ·rw [yc] at h
  obtain ⟨d,b,c⟩:=h;have a:=zb b;simp only [List.getElem?_append_left a,b,Option.bind_some];exact c
 ·exact h
 ·exact h
 ·cases h
theorem zzy (B : Rel g w r.st) (L : Low r.base r.lim r.st) (F : Fr κ loc nt g w r a) {t e : TypeId} {s x : Operand} {sz : Nat} {i : TypeInfo} {K : List Value} {ct : Go.Call}
  (v : o.op = .call ct) (c : ct.callee = .builtin .append) (b : ct.args = #[s,x]) (f : ct.argTypes = #[t,t])
  (hd : okD κ nt o.dst d = true) (y : P.underlying t = some (.slice e)) (E : P.info? e = some i) (A : i.bytes ≤ 32768) (G : i.size = sz) (I : 0 < sz) (z : zeroOf P e = some K) (l : K.length = sz)
  {vs M : V} (j : zf g w r.st vs (a.eval s)) (m : zf g w r.st M (a.eval x))
  {r1 : R} (h : ((elems r.st M).bind fun ys => if zoV sz ys then zES r d sz ys vs else none) = some r1) (J : zpJ κ (zbg o.dst d :: loc) nt g w r r1 (a.put o.dst) next) : o.wp P a w next Q:=by
 rw [yc] at h;obtain ⟨ys,p,h⟩:=h;split at h
 ·rename_i q
  unfold zES at h;split at h
  ·exact zBU B L F v c b f hd y E A G I z l j m p q h J
  ·exact zE0 B L F v c b f hd y E A G I z l j m p q h J
  ·split at h
   ·rename_i N
    obtain ⟨hu,_⟩:=zQ j
    obtain ⟨H,Z⟩:=zqG B sz [0] (fun _ => .slice none 0 0) (fun k n C => ⟨by
     cases k with
     | zero => simp at C; exact C.symm
     | succ k => simp at C,none,rfl⟩)
    have D : zf (g.nils r.st.length fun _ => .slice none 0 0) w (r.alloc (.tok sz [0])).st (.one (.ap r.st.length 0 [])) (a.eval s):=by
     rw [hu];simp only [zf];exact zxq (sz:=sz) [0] (by simp) rfl
    refine zBU (r:=r.alloc (.tok sz [0])) (r1:=r1) Z (L.append _) (F.ext H rfl rfl) v c b f hd y E A G I z l D (H.zf _ _ m) (zwu _ p) q ?_ fun O Y u S X U W => J O Y u (H.trans S) X U W;rw [← h];simp [R.alloc,zoW,Ob.front,Ob.setFront,R.setOb,N]
   ·cases h
  ·cases h
 ·cases h
theorem zDQ {σ : zd} (R : Rel g w σ) {id z sz lo : Nat} {es : List (List C)} {ys : List (List Fz)} {news : List Value} (r : σ[id]? = some (.cells z sz es)) (Q : es ≠ []) (A : Lay w g.N sz ys news) (h1 : ∀ v ∈ news,v.oneCell' = true) (h0 : 0 < sz) (hle : lo + ys.length ≤ es.length) :
  ∃ arr t,w.heap[g.ρ id]? = some (.cells arr t (0,0)) ∧ lo * sz + news.length ≤ arr.size ∧
    Ext g w σ g (w.setRow (g.ρ id) (zdr arr (lo * sz) news)) (σ.set id (.cells z sz (es.take lo ++ (ys.map (fun e => e.map C.f) ++ es.drop (lo + ys.length))))) ∧
    Rel g (w.setRow (g.ρ id) (zdr arr (lo * sz) news)) (σ.set id (.cells z sz (es.take lo ++ (ys.map (fun e => e.map C.f) ++ es.drop (lo + ys.length))))):=by
 obtain ⟨G,V,arr,t,J,L,y⟩:=R.ob id _ r Q;have aA : news.length = ys.length * sz:=A.1
 have l : lo * sz + news.length ≤ arr.size:=by
  have : (lo + ys.length) * sz ≤ es.length * sz:=yd _ hle;rw [yh] at this;omega
 refine ⟨arr,t,J,l,?_⟩;have B:=zjZ (σ:=σ) A;have U : g.ρ id < w.heap.size:=(Array.getElem?_eq_some_iff.1 J).1
 have s : (es.take lo ++ (ys.map (fun e => e.map C.f) ++ es.drop (lo + ys.length))).length = es.length:=by
  simp;omega
 refine replace (g':=g) R r (fun b => b = g.ρ id) rfl rfl rfl (by simp) (fun b P ht => ⟨setRow_other w _ _ _ ht,rfl,fun _ h => h⟩)
  (fun b P => ⟨.inl (by rw [P]; exact G),rfl,fun o h => absurd (by rw [P] at h; exact h) (V o)⟩) (fun _ _ _ h => h) (fun _ _ => rfl) (fun _ _ _ => rfl) (fun b o h => by simpa using R.nb b o h) ?_ ?_ ?_ (fun _ _ h => by cases h) ?_
 ·intro Y aB W K
  refine .inl ⟨?_,rfl,fun _ X t0 p => ?_⟩
  ·rw [zu r] at K
   injection K with K;rw [zu (zD r),← K,s]
  ·rw [J] at p
   injection p with p;injection p with p hq1;subst p;subst hq1;exact ⟨_,setRow_heap w _ _ _ _ _ J,zfV l⟩
 ·intro es' h; cases h
 ·intro k n h; simp [znR,r,Ob.fr] at h
 ·intro H S
  refine ⟨G,V,_,t,setRow_heap w _ _ _ _ _ J,by rw [zfV l,s]; exact L,fun i x m => ?_⟩
  have D : ∀ i x,es[i]? = some x → (i < lo ∨ lo + ys.length ≤ i) → x.length = sz ∧ ∀ j c,x[j]? = some c → ∃ u,(zdr arr (lo * sz) news)[i * sz + j]? = some u ∧ zz g (w.setRow (g.ρ id) (zdr arr (lo * sz) news)) (σ.set id (.cells z sz (es.take lo ++ (ys.map (fun e => e.map C.f) ++ es.drop (lo + ys.length))))) c u ∧ u.oneCell' = true:=fun i x m I => by
   refine ⟨(y i x m).1,fun j c E => ?_⟩;obtain ⟨u,a,b,d⟩:=(y i x m).2 j c E;have O : j < sz:=(by have:=zb E; have:=(y i x m).1; omega);refine ⟨u,?_,H.zz c u b,d⟩;rw [zf8 l];rcases I with I | I
   ·have:=inside (q:=j) I O
    rw [if_pos (by omega)];exact a
   ·have h2 : (lo + ys.length) * sz ≤ i * sz:=yd _ I
    rw [yh] at h2;rw [if_neg (by omega),if_neg (by omega)];exact a
  rw [yn] at m
  by_cases c1 : i < lo
  ·rw [if_pos (by simp; omega),yb,if_pos c1] at m
   exact D i x m (.inl c1)
  ·rw [if_neg (by simp; omega),yn] at m
   have M : (es.take lo).length = lo:=(by simp; omega);rw [M] at m
   by_cases c2 : i - lo < ys.length
   ·rw [if_pos (by simpa using c2)] at m
    obtain ⟨k1,Z⟩:=B (i - lo) x m;refine ⟨k1,fun j c E => ?_⟩;obtain ⟨u,a,b,d⟩:=Z j c E;have O : j < sz:=(by have:=zb E; omega);refine ⟨u,?_,H.zz c u b,d⟩;rw [zf8 l];have e1 : i * sz = lo * sz + (i - lo) * sz:=(by rw [← yh]; congr 1; omega);have e2:=inside (q:=j) c2 O;rw [if_neg (by omega),if_pos (by omega),show i * sz + j - lo * sz = (i - lo) * sz + j from by omega];simpa using a
   ·rw [if_neg (by simpa using c2),yg] at m
    simp only [ym] at m;rw [show lo + ys.length + (i - lo - ys.length) = i from by omega] at m;exact D i x m (.inr (by omega))
theorem zCU {N : zgU} {sz k : Nat} {ys : List (List Fz)} {news : List Value} (h : Lay w N sz ys news) (n : k ≤ ys.length) : Lay w N sz (ys.take k) (news.take (k * sz)):=by
 obtain ⟨p,o,r⟩:=h;have f : k * sz ≤ ys.length * sz:=yd _ n;refine ⟨by rw [yj,yj,p,yv f,yv n],zfK fun e he => zf7 o e (yi he),fun i e d j x m => ?_⟩;rw [yb] at d;split at d
 ·rename_i g
  obtain ⟨u,a,b,c⟩:=r i e d j x m;have l : j < sz:=by have:=zb m; have:=zcb o d; omega
  have:=inside (q:=j) g l;exact ⟨u,by rw [yb,if_pos this]; exact a,b,c⟩
 ·cases d
theorem zAa (R0 : Rel g w r.st) (L : Low r.base r.lim r.st) (F : Fr κ loc nt g w r a) {t t' e : TypeId} {x y : Operand} {sz : Nat} {ct : Go.Call}
  (ho : o.op = .call ct) (D : ct.callee = .builtin .copy) (m : ct.args = #[x,y]) (s : ct.argTypes = #[t,t'])
  (hd : okD κ nt o.dst d = true) (ht : P.underlying t = some (.slice e)) (W : zjM P e = some sz) (h0 : 0 < sz)
  {vx vy : V} (S : zf g w r.st vx (a.eval x)) (aA : zf g w r.st vy (a.eval y))
  {r1 : R} (h : ((elems r.st vy).bind fun ys => if zoV sz ys then zGf r d sz ys vx else none) = some r1) (kk : zpJ κ (zbg o.dst d :: loc) nt g w r r1 (a.put o.dst) next) : o.wp P a w next Q:=by
 rw [yc] at h;obtain ⟨ys,U,h⟩:=h;split at h
 ·rename_i K
  unfold zGf at h;split at h
  ·rename_i id aD lo n
   split at h
   ·cases h
   ·rename_i aF
    rw [yc] at h;obtain ⟨ob,E,h⟩:=h
    cases ob with
    | tok _ _ => simp [zkE] at h
    | mp _ => simp [zkE] at h
    | cells ver' sz' es =>
      simp only [zkE] at h;split at h
      ·rename_i hc
       obtain ⟨rfl,rfl,hle⟩:=hc;injection h with h;subst h;have C:=zhl S E;obtain ⟨b0,c0,e0,aE,aC,Z⟩:=C;obtain ⟨a',c,news,ex,i,M,p⟩:=zjQ R0 aA U K;have b:=zsH h0 i
       have B : es ≠ []:=fun h => by
        rw [h,List.length_nil] at hle;omega
       have l : es.length ≠ 0:=fun h => B (ya h);obtain ⟨aB,X,_⟩:=Z l;have hb:=X (by omega);subst hb;have hk : min ys.length n ≤ ys.length:=Nat.min_le_left _ _;have f:=zCU i hk;have q : (ys.take (min ys.length n)).length = min ys.length n:=(by simp);obtain ⟨arr,ty,hh,A,H,R1⟩:=zDQ (lo:=lo) R0 E B f (fun v J => b v (yi J)) h0 (by rw [q]; exact hle);rw [q] at H R1
       obtain ⟨ad,rfl⟩ : ∃ ad,a' = some ad:=by
        cases a' with
        | none => have:=p rfl; omega
        | some ad => exact ⟨ad,rfl⟩
       have O : (news.take (min ys.length n * sz')).length = min ys.length n * sz':=by rw [f.1,q]
       have k : (loadCells ad (min ys.length n * sz')).run P w = .ok (news.take (min ys.length n * sz')).toArray w:=by
        have:=run_loadCells_list (P:=P) w ad (news.take (min ys.length n * sz')) (fun j v I => by
         rw [yb] at I;split at I
         ·exact M ad rfl j v I
         ·cases I)
        rwa [O] at this
       have z:=run_storeCells_at P (g.ρ id) (lo * sz') ty (news.take (min ys.length n * sz')) 0 arr w hh (by simpa using A) (fun v J => b v (yi J));simp only [yw] at z
       have u : (execOp a.eval o).run P w = .ok (.value (goInt (min ys.length n : Nat))) (w.setRow (g.ρ id) (zdr arr (lo * sz') (news.take (min ys.length n * sz')))):=by
        unfold zjM at W
        cases N : P.info? e with
        | none => simp [N] at W
        | some inf =>
          have Y : inf.size = sz':=(by simpa [N] using W);have G : Nat.min ys.length n = min ys.length n:=rfl;unfold execOp;simp only [ho,resolve,D,m,s,invoke,builtin,Sem.run_bind,Sem.run_pure,Result.andThen_ok,yk,yl,yp,e0,ex];simp [Builtin.copy_,run_underlying ht,Builtin.lenOf,Builtin.firstCells,sizeOf,typeInfo,N,Y,G,k,z,zdr]
       refine zbP (r1:=r.setOb id _) F hd H R1 L.set rfl rfl u ?_ kk;exact zY rfl
      ·cases h
  ·cases h
 ·cases h
end
end Go.A

/- A part of the proof of SchedFlat. Conditions: none. -/
import Derived.Test.YtmkncmffaaninaaGreatFAE
set_option linter.all false
open List renaming eq_nil_of_length_eq_zero → ya,getElem?_take → yb,getElem?_eq_getElem → yf,getElem?_drop → yg,mem_of_mem_take → yi,length_take → yj,map_toArray → yk,map_cons → yl,length_map → ym,getElem?_append → yn,map_nil → yp,ext_getElem? → yr,size_toArray → yt
open Option renaming bind_eq_some_iff → yc
open Nat renaming mul_le_mul_right → yd,add_mul → yh,eq_zero_or_pos → yo,min_eq_left → yv,add_zero → yw
open Array renaming getElem?_toList → ye,length_toList → yq,size_append → yu
namespace Go.A
section
variable {P : Program} {κ : List Tmp} {loc : List (Option Tmp)} {nt : Nat} {g : G} {w : World} {r r' : R} {a : Act} {o : Go.Oper} {d : D} {next : Act → World → Prop} {Q : Exit → Act → World → Prop}
def At (w : World) (b : Option Addr) (vs : List Value) : Prop:=∀ ad,b = some ad → ∀ j v,vs[j]? = some v → w.cell? (ad.add j) = some v
theorem zjj {t ty e : TypeId} {i : TypeInfo} {z : Value} (r : P.underlying t = some (.slice e)) (p : P.info? e = some i) (m : i.zero = some z) {base j : Option Addr} {sLen sCap n c : Nat} {a news : List Value}
  (h : a.length = sLen * i.size) (holds : At w base a) (s : base = none → sCap = 0) (hle : sLen ≤ sCap) (o : news.length = n * i.size) (f : At w j news) (x : j = none → n = 0)
  (l : sCap < sLen + n) (g : sLen + n ≤ LIM) (k : i.bytes ≤ 32768) :
  (Builtin.append_ #[t,t] ty #[.slice base sLen sCap,.slice j n c]).run P w =
   .ok (.slice (some ⟨w.heap.size,0,none⟩) (sLen + n) (grownCap w (sLen + n) sCap e)) (w.drew.alloc (.cells (a.toArray ++ news.toArray ++ Builtin.zeroCells z.cells (grownCap w (sLen + n) sCap e - (sLen + n))) e)):=by
 unfold LIM at g
 have d : (sLen + n) * i.bytes ≤ 140737488355328:=by
  have q : (sLen + n) * i.bytes ≤ 4294967296 * 32768:=Nat.mul_le_mul g k;omega
 cases j with
 | none => have:=x rfl; omega
 | some ad =>
   cases base with
   | some b => exact run_append_grow w t ty e i z r p m b sLen sCap a h (holds b rfl) ad n c news o (f ad rfl) l (by omega) (growslice_fits l d)
   | none =>
     have v:=s rfl;subst v;have q : sLen = 0:=(by omega);subst q;have u : a = []:=ya (by simpa using h);subst u;have:=run_append_nil w t ty e i z r p m ad n c news o (f ad rfl) (by omega) (by omega) (by rw [Nat.zero_add] at d; omega);simpa using this
theorem zjk {t ty e : TypeId} {i : TypeInfo} (r : P.underlying t = some (.slice e)) (p : P.info? e = some i) {b off : Nat} {h : Option Addr} {sLen sCap n c : Nat} {news : List Value} {cur : Array Value} {j : TypeId} (s : w.heap[b]? = some (.cells cur j (0,0)))
  (k : news.length = n * i.size) (d : At w h news) (o : h = none → n = 0) (q : ∀ u ∈ news,u.oneCell' = true) (a : sLen + n ≤ sCap) (g : off + sLen * i.size + news.length ≤ cur.size) :
  (Builtin.append_ #[t,t] ty #[.slice (some ⟨b,off,none⟩) sLen sCap,.slice h n c]).run P w = .ok (.slice (some ⟨b,off,none⟩) (sLen + n) sCap) (w.setRow b (zcP cur (off + sLen * i.size) news)):=by
 have l : (Builtin.firstCells i.size n (.slice h n c)).run P w = .ok news.toArray w:=by
  cases h with
  | none =>
    have:=o rfl;subst this;have m : news = []:=ya (by simpa using k);subst m;exact run_firstCells_none w _ _ _ _
  | some ad => exact run_firstCells_some w i.size n ad n c news k (d ad rfl)
 have f:=run_storeCells_at P b (off + sLen * i.size) j news 0 cur w s (by simpa using g) q;simp only [yw] at f;simp [Builtin.append_,run_underlying r,sizeOf,typeInfo,p,Builtin.lenOf,a,l,Addr.add_lit,f,zcP]
theorem zjv {t ty e : TypeId} {i : TypeInfo} (f : P.underlying t = some (.slice e)) (b : P.info? e = some i) {base a : Option Addr} {c0 c : Nat} :
  (Builtin.append_ #[t,t] ty #[.slice base 0 c0,.slice a 0 c]).run P w = .ok (.slice base 0 c0) w:=by
 have d : (Builtin.firstCells i.size 0 (.slice a 0 c)).run P w = .ok #[] w:=by
  cases a with
  | none => exact run_firstCells_none w _ _ _ _
  | some ad => simpa using run_firstCells_some (P:=P) w i.size 0 ad 0 c [] (by simp) (by simp)
 cases base <;> simp [Builtin.append_,run_underlying f,sizeOf,typeInfo,b,Builtin.lenOf,d,storeCells]
theorem zu3 {sz : Nat} {xs : List (List Fz)} (h : zn4 sz xs = true) : zbO sz xs:=zeW (zkM h)
theorem ziT (R0 : Rel g w r.st) {v : V} {u : Value} {ys : List (List Fz)} {sz : Nat} (I : zf g w r.st v u) (h : elems r.st v = some ys) (z : zn4 sz ys = true) :
  ∃ a' c news,u = .slice a' ys.length c ∧ Lay w g.N sz ys news ∧ At w a' news ∧ (a' = none → ys.length = 0):=by
 have frz : rep w g.N (.sl ys) u → ∃ a' c news,u = .slice a' ys.length c ∧ Lay w g.N sz ys news ∧ At w a' news ∧ (a' = none → ys.length = 0):=fun hr => by
  obtain ⟨a',c,K,us,e,_,H,J⟩:=znt hr fun _ _ h => zpS h;rcases J with rfl | ⟨b,oo,rfl,J⟩
  ·refine ⟨a',c,[],e,⟨by simp,by simp only [zbO],fun i e h => by simp at h⟩,fun ad _ j v h => by simp at h,fun _ => rfl⟩
  ·refine ⟨_,c,us,e,?_,fun ad e1 j v f => ?_,fun h => by cases h⟩
   ·cases ys with
    | nil => exact ⟨by simpa using H.1,by simp only [zbO],fun i e h => by simp at h⟩
    | cons y ys =>
      have e1 : K = sz:=by rw [← zfs H.2.1 y (by simp),zkM z y (by simp)]
      rwa [e1] at H
   ·injection e1 with e1
    subst e1;rw [zaG];exact J j v f
 unfold elems at h;split at h
 ·rename_i id aA lo n
  rw [yc] at h;obtain ⟨ob,S,B⟩:=h;unfold Ob.frz at B;split at B
  ·rename_i X d es
   split at B
   ·rename_i E
    subst E;obtain ⟨a',c,e1,e2,e3,e4⟩:=zgJ I S;obtain ⟨s,D⟩:=zfb B
    by_cases A : es = []
    ·subst A
     have:=e3 rfl;have hn : n = 0:=(by omega);subst hn;simp at s;subst s;exact ⟨a',c,[],e1,⟨by simp,by simp only [zbO],fun i e h => by simp at h⟩,fun ad _ j v h => by simp at h,fun _ => rfl⟩
    ·obtain ⟨f1,f2,arr,t,f3,f4⟩:=e4 fun h => A (ya h)
     obtain ⟨_,_,C,t',m1,m2,R⟩:=R0.ob id _ S A;rw [m1] at f3;injection f3 with f3;injection f3 with f3 _;subst f3;have k : ys.length = n:=by rw [s]; simp; omega
     have p : ∀ i e,((es.drop lo).take n)[i]? = some e → es[lo + i]? = some e:=fun i e m => by
      rw [yb] at m;split at m
      ·rwa [yg] at m
      ·cases m
     have o : ys ≠ [] → d = sz:=fun a => by
      cases ys with
      | nil => exact absurd rfl a
      | cons y ys =>
        obtain ⟨e,P,Q⟩:=D 0 y (by simp);rw [← (R _ e (p 0 e P)).1,← (zfY Q).1];exact zkM z y (by simp)
     refine ⟨a',c,(C.toList.drop (lo * d)).take (n * sz),by rw [k]; exact e1,⟨?_,zu3 z,fun i y m j x f => ?_⟩,fun ad l j v f => ?_,fun Y => ?_⟩
     ·rw [k,yj,List.length_drop,yq]
      by_cases a : ys = []
      ·have : n = 0:=by rw [← k,a]; rfl
       simp [this]
      ·have L:=o a
       subst L;have : (lo + n) * d ≤ es.length * d:=yd _ f1;rw [yh] at this;omega
     ·have a : ys ≠ []:=fun h => by subst h; simp at m
      have L:=o a;subst L;obtain ⟨e,P,Q⟩:=D i y m;obtain ⟨cc,W,h7⟩:=(zfY Q).2 j x f;obtain ⟨h8,h9⟩:=R _ e (p i e P);obtain ⟨Z,U,q2,q3⟩:=h9 j cc W;refine ⟨Z,?_,zgM h7 q2,q3⟩;have aC:=zb m;have M : j < d:=(by have:=zb W; omega);have q:=inside (n:=n) (by omega : i < n) M;rw [yb,if_pos q,yg,ye];rw [yh,Nat.add_assoc] at U;exact U
     ·have q:=zb f
      rw [yb] at f;split at f
      ·rw [yg,ye] at f
       have aB : n ≠ 0:=fun G => by subst G; simp at q
       have O : c ≠ 0:=(by omega);rw [f2 O] at l;injection l with l;subst l;rw [zaG,zh1 m1];exact f
      ·cases f
     ·rw [k]
      have : c = 0:=by
       rcases yo c with G | G
       ·exact G
       ·rw [f2 (by omega)] at Y; cases Y
      omega
   ·cases B
  ·cases B
 ·injection h with h
  subst h;exact frz (zrH I)
 ·injection h with h
  subst h;exact frz (zsv I)
 ·cases h
theorem zBQ {σ : zd} {t : Nat} {a : Ob} (h : σ[t]? = some a) : σ.set t a = σ:=by
 refine yr fun i => ?_;rw [zyZ];split
 ·rename_i b; rw [← b.1]; exact h.symm
 ·rfl
theorem zzs {fr : List Nat} {k n : Nat} (h : fr[k]? = some n) : fr.set k n = fr:=by
 refine yr fun i => ?_;rw [List.getElem?_set];split
 ·rename_i a
  subst a;rw [if_pos (zb h)];exact h.symm
 ·rfl
theorem zxI {sz k n : Nat} {a : Ob} (h : a.front sz k = some n) : ∃ fr,a = .tok sz fr ∧ fr[k]? = some n:=by
 unfold Ob.front at h;split at h
 ·split at h
  ·rename_i e; subst e; exact ⟨_,rfl,h⟩
  ·cases h
 ·cases h
theorem zrv {N : zgd} {sz : Nat} (e : 0 < sz) {ys : List (List Fz)} {news : List Value} (a : Lay w N sz ys news) : ∀ v ∈ news,v.oneCell' = true:=fun v g => by
 obtain ⟨q,d⟩:=List.mem_iff_getElem?.1 g;have b:=zb d;rw [a.1] at b;have e1 : q / sz < ys.length:=(Nat.div_lt_iff_lt_mul e).2 b;have e2 : q % sz < sz:=Nat.mod_lt _ e;have e3:=zbS a.2.1 (yf e1);obtain ⟨u,c,_,f⟩:=a.2.2 _ _ (yf e1) _ _ (yf (by rw [e3]; exact e2));have e4 : q / sz * sz + q % sz = q:=by rw [Nat.mul_comm]; exact Nat.div_add_mod q sz
 rw [e4,d] at c;injection c with c;rw [c]; exact f
theorem zyO (W : Rel g w r.st) (L : Low r.base r.lim r.st) (F : Fr κ loc nt g w r a) {t e : TypeId} {s x : Operand} {sz : Nat} {i : TypeInfo} {zs : List Value} {ct : Go.Call}
  (ho : o.op = .call ct) (S : ct.callee = .builtin .append) (H : ct.args = #[s,x]) (O : ct.argTypes = #[t,t])
  (hd : okD κ nt o.dst d = true) (ht : P.underlying t = some (.slice e)) (X : P.info? e = some i) (hb : i.bytes ≤ 32768) (hs : i.size = sz) (h0 : 0 < sz) (hz : zeroOf P e = some zs) (aN : zs.length = sz)
  {D k : Nat} {xs ys : List (List Fz)} (K : zf g w r.st (.one (.ap D k xs)) (a.eval s)) {vx : V} (Z : zf g w r.st vx (a.eval x)) (aG : elems r.st vx = some ys) (aC : zn4 sz ys = true)
  {r1 : R} (h : (r.st[D]?).bind (znO r d sz D k xs ys) = some r1) (kk : zpE κ (za5 o.dst d :: loc) nt g w r r1 (a.put o.dst) next) : o.wp P a w next Q:=by
 subst hs;rw [yc] at h;obtain ⟨ob,f,h⟩:=h;unfold znO at h;split at h
 ·rename_i hc
  obtain ⟨aI,J⟩:=hc;injection h with h;subst h;obtain ⟨fr,rfl,I⟩:=zxI aI;obtain ⟨iz,z,Y,h2,h3⟩:=zda hz;rw [X] at Y;injection Y with Y;subst Y;subst h3;have aF : z.cells.size = i.size:=by simpa using aN
  simp only [zf,zy] at K;obtain ⟨m,n,u,_,aH,aS,B,E⟩:=K;rw [zdG f I] at u;injection u with u;subst u;rw [zb9 f] at B;injection B with B;subst B;have hu:=aH rfl;obtain ⟨a',c,news,ex,b,U,p⟩:=ziT W Z aG aC;have A:=zrv h0 b
  have hexec : ∀ {v' : Value} {w' : World},(Builtin.append_ #[t,t] o.type #[a.eval s,a.eval x]).run P w = .ok v' w' → (execOp a.eval o).run P w = .ok (.value v') w':=fun {v' w'} hr => by
   unfold execOp;simp only [ho,resolve,S,H,O,invoke,builtin,Sem.run_bind,Sem.run_pure,Result.andThen_ok,yk,yl,yp,hr]
  obtain ⟨b0,c0,us,e0,aL,l,aP⟩ : ∃ b0 c0 us,a.eval s = .slice b0 xs.length c0 ∧ xs.length ≤ c0 ∧ Lay w g.N i.size xs us ∧ At w b0 us:=by
   obtain ⟨b0,c0,aB,us,e1,e2,e3,e4⟩:=znt m fun _ _ h => zpS h;rcases e4 with rfl | ⟨bb,oo,rfl,e5⟩
   ·exact ⟨b0,c0,[],e1,e2,⟨by simp,by simp only [zbO],fun i e h => by simp at h⟩,fun ad _ j v h => by simp at h⟩
   ·refine ⟨_,c0,us,e1,e2,?_,fun ad G j v hj => ?_⟩
    ·cases xs with
     | nil => exact ⟨by simpa using e3.1,by simp only [zbO],fun i e h => by simp at h⟩
     | cons y ys =>
       have e6 : aB = i.size:=by rw [← zfs e3.2.1 y (by simp),zfs E y (by simp)]
       rwa [e6] at e3
    ·injection G with G
     subst G;rw [zaG];exact e5 j v hj
  have C:=W.ob D _ f k _ I
  by_cases q : xs.length + ys.length ≤ c0
  ·by_cases hzero : xs.length + ys.length = 0
   ·
    have aK : ys = []:=ya (by omega);have aM : xs = []:=ya (by omega);subst aK aM
    have aA : r.setOb D ((Ob.tok i.size fr).setFront k 0) = r:=by
     have e1 : (Ob.tok i.size fr).setFront k 0 = .tok i.size fr:=by
      show Ob.tok i.size (fr.set k 0) = _
      rw [zzs (by simpa using I)]
     rw [e1];unfold R.setOb;rw [zBQ f]
    have aD : zpE κ (za5 o.dst d :: loc) nt g w r (r.put d (.one (.ap D k []))) (a.put o.dst) next:=by simpa [aA] using kk
    refine zl7 W L F hd (hexec (v':=.slice b0 0 c0) ?_) ?_ aD
    ·rw [e0,ex]
     exact zjv ht X
    ·simp only [zf,zy]
     have aJ : a.eval s = .slice b0 0 c0:=(by simpa using e0);rw [← aJ];exact ⟨m,_,zdG f I,Nat.le_refl _,fun _ => hu,_,zb9 f,E⟩
   ·rcases C with ⟨m0,ma,m1⟩ | ⟨bb,oo,cc,arr,ty,m1,m2,m3,m4,m5,m6,m7⟩
    ·rw [← hu,e0] at m1
     injection m1 with _ _ m1;omega
    ·rw [← hu,e0] at m1
     injection m1 with m1 _ m1c;subst m1 m1c;rw [e0] at m;obtain ⟨aQ,aR,g',q1,q2,q3,q4,q5⟩:=zBm W f I (by rw [← hu,e0]) (by omega) m E b q;refine zbx (r1:=r.setOb D (.tok i.size (fr.set k (xs.length + ys.length)))) F hd q3 q4 L.set rfl rfl (hexec ?_) (by simp only [zf]; exact q5) kk;rw [e0,ex];exact zjk ht X q1 b.1 U p A q q2
  ·have aO:=grownCap_ge w (xs.length + ys.length) c0 e
   have aE : b0 = none → c0 = 0:=fun hb => by
    rcases C with ⟨m0,ma,m1⟩ | ⟨bb,oo,cc,arr,ty,m1,_⟩
    ·rw [← hu,e0] at m1
     injection m1
    ·rw [← hu,e0] at m1
     injection m1 with m1 _ _;rw [hb] at m1;cases m1
   have M:=zjj (P:=P) (w:=w) (ty:=o.type) ht X h2 l.1 aP aE aL (c:=c) b.1 U p (by omega) J hb;obtain ⟨D1,D2⟩:=drawn W 1
   obtain ⟨g',q3,q4,q5⟩:=zA7 (e:=e) (c:=grownCap w (xs.length + ys.length) c0 e) (arr:=us.toArray ++ news.toArray ++ Builtin.zeroCells z.cells (grownCap w (xs.length + ys.length) c0 e - (xs.length + ys.length))) D2 f I (l.mono D1.keeps) (b.mono D1.keeps) (by omega) aO
    ⟨(Builtin.zeroCells z.cells (grownCap w (xs.length + ys.length) c0 e - (xs.length + ys.length))).toList,by simp⟩ (by
      simp only [yu,yt,size_zeroCells,aF,l.1,b.1,← yh]
      congr 1
      omega) (by omega)
   refine zbx (r1:=r.setOb D (.tok i.size (fr.set k (xs.length + ys.length)))) F hd (D1.trans q3) q4 L.set rfl rfl (hexec ?_) (by simp only [zf]; exact q5) kk;rw [e0,ex];exact M
 ·cases h
theorem zD3 (R0 : Rel g w r.st) (L : Low r.base r.lim r.st) (F : Fr κ loc nt g w r a) {t e : TypeId} {s x : Operand} {sz : Nat} {i : TypeInfo} {zs : List Value} {ct : Go.Call}
  (ho : o.op = .call ct) (S : ct.callee = .builtin .append) (E : ct.args = #[s,x]) (O : ct.argTypes = #[t,t])
  (hd : okD κ nt o.dst d = true) (ht : P.underlying t = some (.slice e)) (hi : P.info? e = some i) (hb : i.bytes ≤ 32768) (hs : i.size = sz) (h0 : 0 < sz) (hz : zeroOf P e = some zs) (aO : zs.length = sz)
  {id m n : Nat} {ys : List (List Fz)} (U : zf g w r.st (.one (.own id m 0 n)) (a.eval s)) {vx : V} (aC : zf g w r.st vx (a.eval x)) (aG : elems r.st vx = some ys) (aE : zn4 sz ys = true)
  {r1 : R} (h : (r.st[id]?).bind (ztA r d sz id m n ys) = some r1) (kk : zpE κ (za5 o.dst d :: loc) nt g w r r1 (a.put o.dst) next) : o.wp P a w next Q:=by
 subst hs;rw [yc] at h;obtain ⟨ob,B,h⟩:=h;unfold ztA at h;split at h
 ·rename_i N
  obtain ⟨D,K,aD⟩:=N;injection h with h;subst h;obtain ⟨es,rfl⟩:=zkp D;obtain ⟨iz,z,h1,h2,h3⟩:=zda hz;rw [hi] at h1;injection h1 with h1;subst h1;subst h3;have aK : z.cells.size = i.size:=by simpa using aO
  have A:=zgJ U B;obtain ⟨b0,c0,e0,X,p,H⟩:=A;obtain ⟨a',c,news,ex,b,Y,l⟩:=ziT R0 aC aG aE;have I:=zrv h0 b
  have hexec : ∀ {v' : Value} {w' : World},(Builtin.append_ #[t,t] o.type #[a.eval s,a.eval x]).run P w = .ok v' w' → (execOp a.eval o).run P w = .ok (.value v') w':=fun {v' w'} hr => by
   unfold execOp;simp only [ho,resolve,S,E,O,invoke,builtin,Sem.run_bind,Sem.run_pure,Result.andThen_ok,yk,yl,yp,hr]
  have y:=ziH (σ:=r.st) b;have Z : (Ob.cells m i.size es).grow n (ys.map fun e => e.map C.f) = .cells (m + 1) i.size (es.take n ++ ys.map fun e => e.map C.f):=rfl;rw [Z] at kk;have M : ∀ aI,Low r.base r.lim (r.setOb id aI).st:=fun aI => L.set
  by_cases G : n + ys.length ≤ c0
  ·have k : es ≠ []:=fun h => by
    have:=p (by rw [h]; rfl);omega
   obtain ⟨arr,ty,q0,q1,q2,q3,q4,q5⟩:=zB6 R0 B k ⟨b0,c0,rfl,X,p,H⟩ (by simpa using b.1) y (by simpa using G) (by simpa using K);subst q0;rw [ym] at q5;refine zbx (r1:=r.setOb id (.cells (m + 1) i.size (es.take n ++ ys.map fun e : List Fz => e.map C.f))) F hd q3 q4 (M _) rfl rfl (hexec ?_) (by simp only [zf]; exact q5) kk;rw [e0,ex];have:=zjk (P:=P) (w:=w) (ty:=o.type) (off:=0) (sLen:=n) (sCap:=c0) (c:=c) ht hi q1 b.1 Y l I G (by simpa using q2);simpa using this
  ·have aP:=grownCap_ge w (n + ys.length) c0 e
   obtain ⟨us,W,aF,aA,aJ⟩ : ∃ us,us.length = n * i.size ∧ At w b0 us ∧ zca g w r.st us.toArray i.size (es.take n) ∧ (b0 = none → c0 = 0):=by
    by_cases k : es = []
    ·have h3:=p (by rw [k]; rfl)
     have h4 : n = 0:=(by omega);subst h4;exact ⟨[],by simp,fun ad _ j v h => by simp at h,fun i e h => by simp at h,fun _ => h3⟩
    ·obtain ⟨f1,f2,arr,ty,f3,f4⟩:=H fun h => k (ya h)
     obtain ⟨_,_,aB,aR,m1,m2,m3⟩:=R0.ob id _ B k;rw [m1] at f3;injection f3 with f3;injection f3 with f3 _;subst f3;have aQ : n * i.size ≤ es.length * i.size:=yd _ (by omega);refine ⟨aB.toList.take (n * i.size),by rw [yj,yq]; omega,fun ad J j v hj => ?_,fun q e hq => ?_,fun hb => ?_⟩
     ·rw [yb] at hj
      split at hj
      ·have N : c0 ≠ 0:=fun h => by
        have h4 : n = 0:=(by omega);subst h4;omega
       rw [f2 N] at J;injection J with J;subst J;rw [zaG,zh1 m1];rw [ye] at hj;simpa using hj
      ·cases hj
     ·rw [yb] at hq
      split at hq
      ·refine ⟨(m3 q e hq).1,fun j c N => ?_⟩
       obtain ⟨u,k1,k2,k3⟩:=(m3 q e hq).2 j c N;have hj : j < i.size:=(by have:=zb N; have:=(m3 q e hq).1; omega);refine ⟨u,?_,k2,k3⟩;rw [List.getElem?_toArray,yb,if_pos (inside (by assumption) hj),ye];exact k1
      ·cases hq
     ·rcases yo c0 with h5 | h5
      ·exact h5
      ·rw [f2 (by omega)] at hb; cases hb
   have aL : n ≤ es.length:=by
    by_cases k : es = []
    ·have:=p (by rw [k]; rfl); omega
    ·have:=(H fun h => k (ya h)).1; omega
   have aH:=zjj (P:=P) (w:=w) (ty:=o.type) ht hi h2 W aF aJ X (c:=c) b.1 Y l (by omega) aD hb;obtain ⟨D1,D2⟩:=drawn R0 1
   obtain ⟨g',q3,q4,q5⟩:=zA8 (e:=e) (c:=grownCap w (n + ys.length) c0 e) (arr:=us.toArray ++ news.toArray ++ Builtin.zeroCells z.cells (grownCap w (n + ys.length) c0 e - (n + ys.length))) D2 B aL W (D1.zca aA) (by simpa using b.1) (D1.zca y) (by simpa using aP) (by simpa using K)
    ⟨(Builtin.zeroCells z.cells (grownCap w (n + ys.length) c0 e - (n + ys.length))).toList,by simp⟩ (by
      simp only [yu,yt,size_zeroCells,aK,W,b.1,← yh]
      congr 1
      omega)
   rw [ym] at q5;refine zbx (r1:=r.setOb id (.cells (m + 1) i.size (es.take n ++ ys.map fun e : List Fz => e.map C.f))) F hd (D1.trans q3) q4 (M _) rfl rfl (hexec ?_) (by simp only [zf]; exact q5) kk;rw [e0,ex];exact aH
 ·split at h
  ·rename_i N
   obtain ⟨D,aS⟩:=N;injection h with h;subst h;have aM : ys = []:=ya (by omega);have aN : n = 0:=(by omega);subst aM aN;obtain ⟨es,rfl⟩:=zkp D;have A:=zgJ U B;obtain ⟨b0,c0,e0,X,p,H⟩:=A;obtain ⟨a',c,news,ex,b,Y,l⟩:=ziT R0 aC aG aE
   have hexec : ∀ {v' : Value} {w' : World},(Builtin.append_ #[t,t] o.type #[a.eval s,a.eval x]).run P w = .ok v' w' → (execOp a.eval o).run P w = .ok (.value v') w':=fun {v' w'} hr => by
    unfold execOp;simp only [ho,resolve,S,E,O,invoke,builtin,Sem.run_bind,Sem.run_pure,Result.andThen_ok,yk,yl,yp,hr]
   refine zl7 R0 L F hd (hexec (v':=.slice b0 0 c0) ?_) ?_ kk
   ·rw [e0,ex]
    exact zjv ht hi
   ·rw [← e0]
    exact U
  ·cases h
theorem zu9 {σ : zd} (o : Ob) {v : V} {ys : List (List Fz)} (h : elems σ v = some ys) : elems (σ ++ [o]) v = some ys:=by
 unfold elems at h ⊢;split at h
 ·rw [yc] at h
  obtain ⟨d,b,c⟩:=h;have a:=zb b;simp only [List.getElem?_append_left a,b,Option.bind_some];exact c
 ·exact h
 ·exact h
 ·cases h
theorem zx8 (I : Rel g w r.st) (L : Low r.base r.lim r.st) (F : Fr κ loc nt g w r a) {t e : TypeId} {s x : Operand} {sz : Nat} {i : TypeInfo} {M : List Value} {ct : Go.Call}
  (E : o.op = .call ct) (f : ct.callee = .builtin .append) (b : ct.args = #[s,x]) (c : ct.argTypes = #[t,t])
  (hd : okD κ nt o.dst d = true) (G : P.underlying t = some (.slice e)) (D : P.info? e = some i) (z : i.bytes ≤ 32768) (v : i.size = sz) (C : 0 < sz) (B : zeroOf P e = some M) (m : M.length = sz)
  {vs K : V} (q : zf g w r.st vs (a.eval s)) (j : zf g w r.st K (a.eval x))
  {r1 : R} (h : ((elems r.st K).bind fun ys => if zn4 sz ys then zDN r d sz ys vs else none) = some r1) (A : zpE κ (za5 o.dst d :: loc) nt g w r r1 (a.put o.dst) next) : o.wp P a w next Q:=by
 rw [yc] at h;obtain ⟨ys,l,h⟩:=h;split at h
 ·rename_i p
  unfold zDN at h;split at h
  ·exact zyO I L F E f b c hd G D z v C B m q j l p h A
  ·exact zD3 I L F E f b c hd G D z v C B m q j l p h A
  ·split at h
   ·rename_i S
    obtain ⟨hu,_⟩:=zM q
    obtain ⟨H,O⟩:=zr7 I sz [0] (fun _ => .slice none 0 0) (fun k n J => ⟨by
     cases k with
     | zero => simp at J; exact J.symm
     | succ k => simp at J,none,rfl⟩)
    have y : zf (g.nils r.st.length fun _ => .slice none 0 0) w (r.alloc (.tok sz [0])).st (.one (.ap r.st.length 0 [])) (a.eval s):=by
     rw [hu];simp only [zf];exact zzx (sz:=sz) [0] (by simp) rfl
    refine zyO (r:=r.alloc (.tok sz [0])) (r1:=r1) O (L.append _) (F.ext H rfl rfl) E f b c hd G D z v C B m y (H.zf _ _ j) (zu9 _ l) p ?_ fun X Y u U N Z W => A X Y u (H.trans U) N Z W;rw [← h];simp [R.alloc,znO,Ob.front,Ob.setFront,R.setOb,S]
   ·cases h
  ·cases h
 ·cases h
theorem zAQ {σ : zd} (R : Rel g w σ) {id z sz lo : Nat} {es : List (List C)} {ys : List (List Fz)} {news : List Value} (s : σ[id]? = some (.cells z sz es)) (Q : es ≠ []) (A : Lay w g.N sz ys news) (h1 : ∀ v ∈ news,v.oneCell' = true) (h0 : 0 < sz) (hle : lo + ys.length ≤ es.length) :
  ∃ arr t,w.heap[g.ρ id]? = some (.cells arr t (0,0)) ∧ lo * sz + news.length ≤ arr.size ∧
    Ext g w σ g (w.setRow (g.ρ id) (zcP arr (lo * sz) news)) (σ.set id (.cells z sz (es.take lo ++ (ys.map (fun e => e.map C.f) ++ es.drop (lo + ys.length))))) ∧
    Rel g (w.setRow (g.ρ id) (zcP arr (lo * sz) news)) (σ.set id (.cells z sz (es.take lo ++ (ys.map (fun e => e.map C.f) ++ es.drop (lo + ys.length))))):=by
 obtain ⟨I,X,arr,t,J,P,r⟩:=R.ob id _ s Q;have aA : news.length = ys.length * sz:=A.1
 have l : lo * sz + news.length ≤ arr.size:=by
  have : (lo + ys.length) * sz ≤ es.length * sz:=yd _ hle;rw [yh] at this;omega
 refine ⟨arr,t,J,l,?_⟩;have B:=ziH (σ:=σ) A;have U : g.ρ id < w.heap.size:=(Array.getElem?_eq_some_iff.1 J).1
 have y : (es.take lo ++ (ys.map (fun e => e.map C.f) ++ es.drop (lo + ys.length))).length = es.length:=by
  simp;omega
 refine replace (g':=g) R s (fun b => b = g.ρ id) rfl rfl rfl (by simp) (fun b L ht => ⟨setRow_other w _ _ _ ht,rfl,fun _ h => h⟩)
  (fun b L => ⟨.inl (by rw [L]; exact I),rfl,fun o h => absurd (by rw [L] at h; exact h) (X o)⟩) (fun _ _ _ h => h) (fun _ _ => rfl) (fun _ _ _ => rfl) (fun b o h => by simpa using R.nb b o h) ?_ ?_ ?_ (fun _ _ h => by cases h) ?_
 ·intro S Z Y K
  refine .inl ⟨?_,rfl,fun _ W t0 p => ?_⟩
  ·rw [zt s] at K
   injection K with K;rw [zt (zB s),← K,y]
  ·rw [J] at p
   injection p with p;injection p with p hq1;subst p;subst hq1;exact ⟨_,setRow_heap w _ _ _ _ _ J,zfl l⟩
 ·intro es' h; cases h
 ·intro k n h; simp [zmP,s,Ob.fr] at h
 ·intro H V
  refine ⟨I,X,_,t,setRow_heap w _ _ _ _ _ J,by rw [zfl l,y]; exact P,fun i x m => ?_⟩
  have G : ∀ i x,es[i]? = some x → (i < lo ∨ lo + ys.length ≤ i) → x.length = sz ∧ ∀ j c,x[j]? = some c → ∃ u,(zcP arr (lo * sz) news)[i * sz + j]? = some u ∧ zy g (w.setRow (g.ρ id) (zcP arr (lo * sz) news)) (σ.set id (.cells z sz (es.take lo ++ (ys.map (fun e => e.map C.f) ++ es.drop (lo + ys.length))))) c u ∧ u.oneCell' = true:=fun i x m D => by
   refine ⟨(r i x m).1,fun j c E => ?_⟩;obtain ⟨u,a,b,d⟩:=(r i x m).2 j c E;have O : j < sz:=(by have:=zb E; have:=(r i x m).1; omega);refine ⟨u,?_,H.zy c u b,d⟩;rw [zfr l];rcases D with D | D
   ·have:=inside (q:=j) D O
    rw [if_pos (by omega)];exact a
   ·have h2 : (lo + ys.length) * sz ≤ i * sz:=yd _ D
    rw [yh] at h2;rw [if_neg (by omega),if_neg (by omega)];exact a
  rw [yn] at m
  by_cases c1 : i < lo
  ·rw [if_pos (by simp; omega),yb,if_pos c1] at m
   exact G i x m (.inl c1)
  ·rw [if_neg (by simp; omega),yn] at m
   have M : (es.take lo).length = lo:=(by simp; omega);rw [M] at m
   by_cases c2 : i - lo < ys.length
   ·rw [if_pos (by simpa using c2)] at m
    obtain ⟨k1,k2⟩:=B (i - lo) x m;refine ⟨k1,fun j c E => ?_⟩;obtain ⟨u,a,b,d⟩:=k2 j c E;have O : j < sz:=(by have:=zb E; omega);refine ⟨u,?_,H.zy c u b,d⟩;rw [zfr l];have e1 : i * sz = lo * sz + (i - lo) * sz:=(by rw [← yh]; congr 1; omega);have e2:=inside (q:=j) c2 O;rw [if_neg (by omega),if_pos (by omega),show i * sz + j - lo * sz = (i - lo) * sz + j from by omega];simpa using a
   ·rw [if_neg (by simpa using c2),yg] at m
    simp only [ym] at m;rw [show lo + ys.length + (i - lo - ys.length) = i from by omega] at m;exact G i x m (.inr (by omega))
theorem zAV {N : zgd} {sz k : Nat} {ys : List (List Fz)} {news : List Value} (h : Lay w N sz ys news) (n : k ≤ ys.length) : Lay w N sz (ys.take k) (news.take (k * sz)):=by
 obtain ⟨p,m,r⟩:=h;have f : k * sz ≤ ys.length * sz:=yd _ n;refine ⟨by rw [yj,yj,p,yv f,yv n],zeW fun e he => zfs m e (yi he),fun i e d j x o => ?_⟩;rw [yb] at d;split at d
 ·rename_i l
  obtain ⟨u,a,b,c⟩:=r i e d j x o;have g : j < sz:=by have:=zb o; have:=zbS m d; omega
  have:=inside (q:=j) l g;exact ⟨u,by rw [yb,if_pos this]; exact a,b,c⟩
 ·cases d
theorem zyP (R0 : Rel g w r.st) (L : Low r.base r.lim r.st) (F : Fr κ loc nt g w r a) {t t' e : TypeId} {x y : Operand} {sz : Nat} {ct : Go.Call}
  (ho : o.op = .call ct) (C : ct.callee = .builtin .copy) (q : ct.args = #[x,y]) (B : ct.argTypes = #[t,t'])
  (hd : okD κ nt o.dst d = true) (ht : P.underlying t = some (.slice e)) (S : zjo P e = some sz) (h0 : 0 < sz)
  {vx vy : V} (J : zf g w r.st vx (a.eval x)) (U : zf g w r.st vy (a.eval y))
  {r1 : R} (h : ((elems r.st vy).bind fun ys => if zn4 sz ys then zFd r d sz ys vx else none) = some r1) (kk : zpE κ (za5 o.dst d :: loc) nt g w r r1 (a.put o.dst) next) : o.wp P a w next Q:=by
 rw [yc] at h;obtain ⟨ys,X,h⟩:=h;split at h
 ·rename_i K
  unfold zFd at h;split at h
  ·rename_i id aE lo n
   split at h
   ·cases h
   ·rename_i aD
    rw [yc] at h;obtain ⟨ob,z,h⟩:=h
    cases ob with
    | tok _ _ => simp [zjz] at h
    | mp _ => simp [zjz] at h
    | cells ver' sz' es =>
      simp only [zjz] at h;split at h
      ·rename_i hc
       obtain ⟨rfl,rfl,hle⟩:=hc;injection h with h;subst h;have u:=zgJ J z;obtain ⟨b0,c0,e0,aF,aB,Y⟩:=u;obtain ⟨a',c,news,ex,i,Z,p⟩:=ziT R0 U X K;have b:=zrv h0 i
       have E : es ≠ []:=fun h => by
        rw [h,List.length_nil] at hle;omega
       have m : es.length ≠ 0:=fun h => E (ya h);obtain ⟨aC,aA,_⟩:=Y m;have hb:=aA (by omega);subst hb;have hk : min ys.length n ≤ ys.length:=Nat.min_le_left _ _;have f:=zAV i hk;have k : (ys.take (min ys.length n)).length = min ys.length n:=(by simp);obtain ⟨arr,ty,hh,D,H,R1⟩:=zAQ (lo:=lo) R0 z E f (fun v M => b v (yi M)) h0 (by rw [k]; exact hle);rw [k] at H R1
       obtain ⟨ad,rfl⟩ : ∃ ad,a' = some ad:=by
        cases a' with
        | none => have:=p rfl; omega
        | some ad => exact ⟨ad,rfl⟩
       have W : (news.take (min ys.length n * sz')).length = min ys.length n * sz':=by rw [f.1,k]
       have l : (loadCells ad (min ys.length n * sz')).run P w = .ok (news.take (min ys.length n * sz')).toArray w:=by
        have:=run_loadCells_list (P:=P) w ad (news.take (min ys.length n * sz')) (fun j v I => by
         rw [yb] at I;split at I
         ·exact Z ad rfl j v I
         ·cases I)
        rwa [W] at this
       have s:=run_storeCells_at P (g.ρ id) (lo * sz') ty (news.take (min ys.length n * sz')) 0 arr w hh (by simpa using D) (fun v M => b v (yi M));simp only [yw] at s
       have A : (execOp a.eval o).run P w = .ok (.value (goInt (min ys.length n : Nat))) (w.setRow (g.ρ id) (zcP arr (lo * sz') (news.take (min ys.length n * sz')))):=by
        unfold zjo at S
        cases O : P.info? e with
        | none => simp [O] at S
        | some inf =>
          have N : inf.size = sz':=(by simpa [O] using S);have G : Nat.min ys.length n = min ys.length n:=rfl;unfold execOp;simp only [ho,resolve,C,q,B,invoke,builtin,Sem.run_bind,Sem.run_pure,Result.andThen_ok,yk,yl,yp,e0,ex];simp [Builtin.copy_,run_underlying ht,Builtin.lenOf,Builtin.firstCells,sizeOf,typeInfo,O,N,G,l,s,zcP]
       refine zbx (r1:=r.setOb id _) F hd H R1 L.set rfl rfl A ?_ kk;exact zT rfl
      ·cases h
  ·cases h
 ·cases h
end
end Go.A

/- A part of the proof of AliasBoth. Conditions: none. -/
import Derived.Test.YtmkncmffaaninaaGreatAAE
set_option linter.all false
open List renaming eq_nil_of_length_eq_zero → ya,getElem?_take → yb,getElem?_eq_getElem → yf,getElem?_drop → yg,mem_of_mem_take → yi,length_take → yj,map_toArray → yk,map_cons → yl,length_map → ym,getElem?_append → yn,map_nil → yp,ext_getElem? → yr,size_toArray → yt
open Option renaming bind_eq_some_iff → yc
open Nat renaming mul_le_mul_right → yd,add_mul → yh,eq_zero_or_pos → yo,min_eq_left → yv,add_zero → yw
open Array renaming getElem?_toList → ye,length_toList → yq,size_append → yu
namespace Go.A
section
variable {P : Program} {κ : List Tmp} {loc : List (Option Tmp)} {nt : Nat} {g : G} {w : World} {r r' : R} {a : Act} {o : Go.Oper} {d : D} {next : Act → World → Prop} {Q : Exit → Act → World → Prop}
def At (w : World) (b : Option Addr) (vs : List Value) : Prop:=∀ ad,b = some ad → ∀ j v,vs[j]? = some v → w.cell? (ad.add j) = some v
theorem zgW {t ty e : TypeId} {i : TypeInfo} {z : Value} (r : P.underlying t = some (.slice e)) (l : P.info? e = some i) (o : i.zero = some z) {base j : Option Addr} {sLen sCap n c : Nat} {a news : List Value}
  (h : a.length = sLen * i.size) (holds : At w base a) (v : base = none → sCap = 0) (hle : sLen ≤ sCap) (q : news.length = n * i.size) (f : At w j news) (x : j = none → n = 0)
  (p : sCap < sLen + n) (g : sLen + n ≤ LIM) (k : i.bytes ≤ 32768) :
  (Builtin.append_ #[t,t] ty #[.slice base sLen sCap,.slice j n c]).run P w =
   .ok (.slice (some ⟨w.heap.size,0,none⟩) (sLen + n) (grownCap w (sLen + n) sCap e)) (w.drew.alloc (.cells (a.toArray ++ news.toArray ++ Builtin.zeroCells z.cells (grownCap w (sLen + n) sCap e - (sLen + n))) e)):=by
 unfold LIM at g
 have d : (sLen + n) * i.bytes ≤ 140737488355328:=by
  have m : (sLen + n) * i.bytes ≤ 4294967296 * 32768:=Nat.mul_le_mul g k;omega
 cases j with
 | none => have:=x rfl; omega
 | some ad =>
   cases base with
   | some b => exact run_append_grow w t ty e i z r l o b sLen sCap a h (holds b rfl) ad n c news q (f ad rfl) p (by omega) (growslice_fits p d)
   | none =>
     have u:=v rfl;subst u;have m : sLen = 0:=(by omega);subst m;have s : a = []:=ya (by simpa using h);subst s;have:=run_append_nil w t ty e i z r l o ad n c news q (f ad rfl) (by omega) (by omega) (by rw [Nat.zero_add] at d; omega);simpa using this
theorem zgX {t ty e : TypeId} {i : TypeInfo} (s : P.underlying t = some (.slice e)) (m : P.info? e = some i) {b off : Nat} {h : Option Addr} {sLen sCap n c : Nat} {news : List Value} {cur : Array Value} {k : TypeId} (q : w.heap[b]? = some (.cells cur k (0,0)))
  (j : news.length = n * i.size) (d : At w h news) (r : h = none → n = 0) (p : ∀ u ∈ news,u.oneCell' = true) (a : sLen + n ≤ sCap) (f : off + sLen * i.size + news.length ≤ cur.size) :
  (Builtin.append_ #[t,t] ty #[.slice (some ⟨b,off,none⟩) sLen sCap,.slice h n c]).run P w = .ok (.slice (some ⟨b,off,none⟩) (sLen + n) sCap) (w.setRow b (zbs cur (off + sLen * i.size) news)):=by
 have o : (Builtin.firstCells i.size n (.slice h n c)).run P w = .ok news.toArray w:=by
  cases h with
  | none =>
    have:=r rfl;subst this;have l : news = []:=ya (by simpa using j);subst l;exact run_firstCells_none w _ _ _ _
  | some ad => exact run_firstCells_some w i.size n ad n c news j (d ad rfl)
 have g:=run_storeCells_at P b (off + sLen * i.size) k news 0 cur w q (by simpa using f) p;simp only [yw] at g;simp [Builtin.append_,run_underlying s,sizeOf,typeInfo,m,Builtin.lenOf,a,o,Addr.add_lit,g,zbs]
theorem zhk {t ty e : TypeId} {i : TypeInfo} (f : P.underlying t = some (.slice e)) (b : P.info? e = some i) {base a : Option Addr} {c0 c : Nat} :
  (Builtin.append_ #[t,t] ty #[.slice base 0 c0,.slice a 0 c]).run P w = .ok (.slice base 0 c0) w:=by
 have d : (Builtin.firstCells i.size 0 (.slice a 0 c)).run P w = .ok #[] w:=by
  cases a with
  | none => exact run_firstCells_none w _ _ _ _
  | some ad => simpa using run_firstCells_some (P:=P) w i.size 0 ad 0 c [] (by simp) (by simp)
 cases base <;> simp [Builtin.append_,run_underlying f,sizeOf,typeInfo,b,Builtin.lenOf,d,storeCells]
theorem zsC {sz : Nat} {xs : List (List Fz)} (h : zpv sz xs = true) : zbr sz xs:=zcT (zir h)
theorem zgp (R0 : Rel g w r.st) {v : V} {u : Value} {ys : List (List Fz)} {sz : Nat} (O : ze g w r.st v u) (h : elems r.st v = some ys) (A : zpv sz ys = true) :
  ∃ a' c news,u = .slice a' ys.length c ∧ Lay w g.N sz ys news ∧ At w a' news ∧ (a' = none → ys.length = 0):=by
 have frz : rep w g.N (.sl ys) u → ∃ a' c news,u = .slice a' ys.length c ∧ Lay w g.N sz ys news ∧ At w a' news ∧ (a' = none → ys.length = 0):=fun hr => by
  obtain ⟨a',c,I,us,e,_,P,R⟩:=zoY hr fun _ _ h => zpH h;rcases R with rfl | ⟨b,oo,rfl,R⟩
  ·refine ⟨a',c,[],e,⟨by simp,by simp only [zbr],fun i e h => by simp at h⟩,fun ad _ j v h => by simp at h,fun _ => rfl⟩
  ·refine ⟨_,c,us,e,?_,fun ad q j v f => ?_,fun h => by cases h⟩
   ·cases ys with
    | nil => exact ⟨by simpa using P.1,by simp only [zbr],fun i e h => by simp at h⟩
    | cons y ys =>
      have q : I = sz:=by rw [← zdd P.2.1 y (by simp),zir A y (by simp)]
      rwa [q] at P
   ·injection q with q
    subst q;rw [zaf];exact R j v f
 unfold elems at h;split at h
 ·rename_i id aA lo n
  rw [yc] at h;obtain ⟨ob,W,C⟩:=h;unfold Ob.frz at C;split at C
  ·rename_i Z d es
   split at C
   ·rename_i E
    subst E;obtain ⟨a',c,q,e2,e3,e4⟩:=zeG O W;obtain ⟨B,G⟩:=zc9 C
    by_cases z : es = []
    ·subst z
     have:=e3 rfl;have hn : n = 0:=(by omega);subst hn;simp at B;subst B;exact ⟨a',c,[],q,⟨by simp,by simp only [zbr],fun i e h => by simp at h⟩,fun ad _ j v h => by simp at h,fun _ => rfl⟩
    ·obtain ⟨f1,f2,arr,t,f3,f4⟩:=e4 fun h => z (ya h)
     obtain ⟨_,_,D,t',m1,m2,X⟩:=R0.ob id _ W z;rw [m1] at f3;injection f3 with f3;injection f3 with f3 _;subst f3;have l : ys.length = n:=by rw [B]; simp; omega
     have o : ∀ i e,((es.drop lo).take n)[i]? = some e → es[lo + i]? = some e:=fun i e p => by
      rw [yb] at p;split at p
      ·rwa [yg] at p
      ·cases p
     have m : ys ≠ [] → d = sz:=fun a => by
      cases ys with
      | nil => exact absurd rfl a
      | cons y ys =>
        obtain ⟨e,K,M⟩:=G 0 y (by simp);rw [← (X _ e (o 0 e K)).1,← (zdK M).1];exact zir A y (by simp)
     refine ⟨a',c,(D.toList.drop (lo * d)).take (n * sz),by rw [l]; exact q,⟨?_,zsC A,fun i y p j x f => ?_⟩,fun ad k j v f => ?_,fun Y => ?_⟩
     ·rw [l,yj,List.length_drop,yq]
      by_cases a : ys = []
      ·have : n = 0:=by rw [← l,a]; rfl
       simp [this]
      ·have L:=m a
       subst L;have : (lo + n) * d ≤ es.length * d:=yd _ f1;rw [yh] at this;omega
     ·have a : ys ≠ []:=fun h => by subst h; simp at p
      have L:=m a;subst L;obtain ⟨e,K,M⟩:=G i y p;obtain ⟨cc,U,h7⟩:=(zdK M).2 j x f;obtain ⟨h8,h9⟩:=X _ e (o i e K);obtain ⟨u',S,q2,q3⟩:=h9 j cc U;refine ⟨u',?_,zeJ h7 q2,q3⟩;have aC:=za p;have J : j < d:=(by have:=za U; omega);have s:=inside (n:=n) (by omega : i < n) J;rw [yb,if_pos s,yg,ye];rw [yh,Nat.add_assoc] at S;exact S
     ·have s:=za f
      rw [yb] at f;split at f
      ·rw [yg,ye] at f
       have aB : n ≠ 0:=fun H => by subst H; simp at s
       have Q : c ≠ 0:=(by omega);rw [f2 Q] at k;injection k with k;subst k;rw [zaf,zfQ m1];exact f
      ·cases f
     ·rw [l]
      have : c = 0:=by
       rcases yo c with H | H
       ·exact H
       ·rw [f2 (by omega)] at Y; cases Y
      omega
   ·cases C
  ·cases C
 ·injection h with h
  subst h;exact frz (zpx O)
 ·injection h with h
  subst h;exact frz (zqh O)
 ·cases h
theorem zzr {σ : zb} {t : Nat} {a : Ob} (h : σ[t]? = some a) : σ.set t a = σ:=by
 refine yr fun i => ?_;rw [zsQ];split
 ·rename_i b; rw [← b.1]; exact h.symm
 ·rfl
theorem zxQ {fr : List Nat} {k n : Nat} (h : fr[k]? = some n) : fr.set k n = fr:=by
 refine yr fun i => ?_;rw [List.getElem?_set];split
 ·rename_i a
  subst a;rw [if_pos (za h)];exact h.symm
 ·rfl
theorem zvm {sz k n : Nat} {a : Ob} (h : a.front sz k = some n) : ∃ fr,a = .tok sz fr ∧ fr[k]? = some n:=by
 unfold Ob.front at h;split at h
 ·split at h
  ·rename_i e; subst e; exact ⟨_,rfl,h⟩
  ·cases h
 ·cases h
theorem zsJ {N : zeb} {sz : Nat} (e : 0 < sz) {ys : List (List Fz)} {news : List Value} (a : Lay w N sz ys news) : ∀ v ∈ news,v.oneCell' = true:=fun v j => by
 obtain ⟨q,d⟩:=List.mem_iff_getElem?.1 j;have b:=za d;rw [a.1] at b;have f : q / sz < ys.length:=(Nat.div_lt_iff_lt_mul e).2 b;have e2 : q % sz < sz:=Nat.mod_lt _ e;have h:=zba a.2.1 (yf f);obtain ⟨u,c,_,i⟩:=a.2.2 _ _ (yf f) _ _ (yf (by rw [h]; exact e2));have g : q / sz * sz + q % sz = q:=by rw [Nat.mul_comm]; exact Nat.div_add_mod q sz
 rw [g,d] at c;injection c with c;rw [c]; exact i
theorem zxa (M : Rel g w r.st) (L : Low r.base r.lim r.st) (F : Fr κ loc nt g w r a) {t e : TypeId} {s x : Operand} {sz : Nat} {i : TypeInfo} {zs : List Value} {ct : Go.Call}
  (ho : o.op = .call ct) (K : ct.callee = .builtin .append) (I : ct.args = #[s,x]) (U : ct.argTypes = #[t,t])
  (hd : okD κ nt o.dst d = true) (ht : P.underlying t = some (.slice e)) (Z : P.info? e = some i) (hb : i.bytes ≤ 32768) (hs : i.size = sz) (h0 : 0 < sz) (hz : zeroOf P e = some zs) (aN : zs.length = sz)
  {D k : Nat} {xs ys : List (List Fz)} (S : ze g w r.st (.one (.ap D k xs)) (a.eval s)) {vx : V} (aL : ze g w r.st vx (a.eval x)) (aF : elems r.st vx = some ys) (aH : zpv sz ys = true)
  {r1 : R} (h : (r.st[D]?).bind (zlG r d sz D k xs ys) = some r1) (kk : znO κ (zaH o.dst d :: loc) nt g w r r1 (a.put o.dst) next) : o.wp P a w next Q:=by
 subst hs;rw [yc] at h;obtain ⟨ob,f,h⟩:=h;unfold zlG at h;split at h
 ·rename_i hc
  obtain ⟨aB,O⟩:=hc;injection h with h;subst h;obtain ⟨fr,rfl,J⟩:=zvm aB;obtain ⟨iz,z,Y,h2,h3⟩:=zby hz;rw [Z] at Y;injection Y with Y;subst Y;subst h3;have aG : z.cells.size = i.size:=by simpa using aN
  simp only [ze,zq] at S;obtain ⟨m,n,A,_,aA,aS,C,H⟩:=S;rw [zct f J] at A;injection A with A;subst A;rw [zbC f] at C;injection C with C;subst C;have hu:=aA rfl;obtain ⟨a',c,news,ex,b,X,p⟩:=zgp M aL aF aH;have B:=zsJ h0 b
  have hexec : ∀ {v' : Value} {w' : World},(Builtin.append_ #[t,t] o.type #[a.eval s,a.eval x]).run P w = .ok v' w' → (execOp a.eval o).run P w = .ok (.value v') w':=fun {v' w'} hr => by
   unfold execOp;simp only [ho,resolve,K,I,U,invoke,builtin,Sem.run_bind,Sem.run_pure,Result.andThen_ok,yk,yl,yp,hr]
  obtain ⟨b0,c0,us,u,aJ,l,aO⟩ : ∃ b0 c0 us,a.eval s = .slice b0 xs.length c0 ∧ xs.length ≤ c0 ∧ Lay w g.N i.size xs us ∧ At w b0 us:=by
   obtain ⟨b0,c0,aQ,us,e1,e2,e3,e4⟩:=zoY m fun _ _ h => zpH h;rcases e4 with rfl | ⟨bb,oo,rfl,e5⟩
   ·exact ⟨b0,c0,[],e1,e2,⟨by simp,by simp only [zbr],fun i e h => by simp at h⟩,fun ad _ j v h => by simp at h⟩
   ·refine ⟨_,c0,us,e1,e2,?_,fun ad G j v hj => ?_⟩
    ·cases xs with
     | nil => exact ⟨by simpa using e3.1,by simp only [zbr],fun i e h => by simp at h⟩
     | cons y ys =>
       have e6 : aQ = i.size:=by rw [← zdd e3.2.1 y (by simp),zdd H y (by simp)]
       rwa [e6] at e3
    ·injection G with G
     subst G;rw [zaf];exact e5 j v hj
  have E:=M.ob D _ f k _ J
  by_cases q : xs.length + ys.length ≤ c0
  ·by_cases hzero : xs.length + ys.length = 0
   ·
    have aD : ys = []:=ya (by omega);have aP : xs = []:=ya (by omega);subst aD aP
    have aI : r.setOb D ((Ob.tok i.size fr).setFront k 0) = r:=by
     have e1 : (Ob.tok i.size fr).setFront k 0 = .tok i.size fr:=by
      show Ob.tok i.size (fr.set k 0) = _
      rw [zxQ (by simpa using J)]
     rw [e1];unfold R.setOb;rw [zzr f]
    have aK : znO κ (zaH o.dst d :: loc) nt g w r (r.put d (.one (.ap D k []))) (a.put o.dst) next:=by simpa [aI] using kk
    refine zjA M L F hd (hexec (v':=.slice b0 0 c0) ?_) ?_ aK
    ·rw [u,ex]
     exact zhk ht Z
    ·simp only [ze,zq]
     have aE : a.eval s = .slice b0 0 c0:=(by simpa using u);rw [← aE];exact ⟨m,_,zct f J,Nat.le_refl _,fun _ => hu,_,zbC f,H⟩
   ·rcases E with ⟨m0,ma,m1⟩ | ⟨bb,oo,cc,arr,ty,m1,m2,m3,m4,m5,m6,m7⟩
    ·rw [← hu,u] at m1
     injection m1 with _ _ m1;omega
    ·rw [← hu,u] at m1
     injection m1 with m1 _ m1c;subst m1 m1c;rw [u] at m;obtain ⟨aR,aT,g',q1,q2,q3,q4,q5⟩:=zy0 M f J (by rw [← hu,u]) (by omega) m H b q;refine zbk (r1:=r.setOb D (.tok i.size (fr.set k (xs.length + ys.length)))) F hd q3 q4 L.set rfl rfl (hexec ?_) (by simp only [ze]; exact q5) kk;rw [u,ex];exact zgX ht Z q1 b.1 X p B q q2
  ·have aM:=grownCap_ge w (xs.length + ys.length) c0 e
   have aC : b0 = none → c0 = 0:=fun hb => by
    rcases E with ⟨m0,ma,m1⟩ | ⟨bb,oo,cc,arr,ty,m1,_⟩
    ·rw [← hu,u] at m1
     injection m1
    ·rw [← hu,u] at m1
     injection m1 with m1 _ _;rw [hb] at m1;cases m1
   have W:=zgW (P:=P) (w:=w) (ty:=o.type) ht Z h2 l.1 aO aC aJ (c:=c) b.1 X p (by omega) O hb;obtain ⟨D1,D2⟩:=drawn M 1
   obtain ⟨g',q3,q4,q5⟩:=zzZ (e:=e) (c:=grownCap w (xs.length + ys.length) c0 e) (arr:=us.toArray ++ news.toArray ++ Builtin.zeroCells z.cells (grownCap w (xs.length + ys.length) c0 e - (xs.length + ys.length))) D2 f J (l.mono D1.keeps) (b.mono D1.keeps) (by omega) aM
    ⟨(Builtin.zeroCells z.cells (grownCap w (xs.length + ys.length) c0 e - (xs.length + ys.length))).toList,by simp⟩ (by
      simp only [yu,yt,size_zeroCells,aG,l.1,b.1,← yh]
      congr 1
      omega) (by omega)
   refine zbk (r1:=r.setOb D (.tok i.size (fr.set k (xs.length + ys.length)))) F hd (D1.trans q3) q4 L.set rfl rfl (hexec ?_) (by simp only [ze]; exact q5) kk;rw [u,ex];exact W
 ·cases h
theorem zBa (R0 : Rel g w r.st) (L : Low r.base r.lim r.st) (F : Fr κ loc nt g w r a) {t e : TypeId} {s x : Operand} {sz : Nat} {i : TypeInfo} {zs : List Value} {ct : Go.Call}
  (ho : o.op = .call ct) (K : ct.callee = .builtin .append) (D : ct.args = #[s,x]) (S : ct.argTypes = #[t,t])
  (hd : okD κ nt o.dst d = true) (ht : P.underlying t = some (.slice e)) (hi : P.info? e = some i) (hb : i.bytes ≤ 32768) (hs : i.size = sz) (h0 : 0 < sz) (hz : zeroOf P e = some zs) (aQ : zs.length = sz)
  {id m n : Nat} {ys : List (List Fz)} (Y : ze g w r.st (.one (.own id m 0 n)) (a.eval s)) {vx : V} (aH : ze g w r.st vx (a.eval x)) (aD : elems r.st vx = some ys) (aF : zpv sz ys = true)
  {r1 : R} (h : (r.st[id]?).bind (zrg r d sz id m n ys) = some r1) (kk : znO κ (zaH o.dst d :: loc) nt g w r r1 (a.put o.dst) next) : o.wp P a w next Q:=by
 subst hs;rw [yc] at h;obtain ⟨ob,E,h⟩:=h;unfold zrg at h;split at h
 ·rename_i O
  obtain ⟨p,N,aC⟩:=O;injection h with h;subst h;obtain ⟨es,rfl⟩:=zik p;obtain ⟨iz,z,h1,h2,h3⟩:=zby hz;rw [hi] at h1;injection h1 with h1;subst h1;subst h3;have aN : z.cells.size = i.size:=by simpa using aQ
  have y:=zeG Y E;obtain ⟨b0,c0,e0,Z,B,H⟩:=y;obtain ⟨a',c,news,ex,b,aB,l⟩:=zgp R0 aH aD aF;have J:=zsJ h0 b
  have hexec : ∀ {v' : Value} {w' : World},(Builtin.append_ #[t,t] o.type #[a.eval s,a.eval x]).run P w = .ok v' w' → (execOp a.eval o).run P w = .ok (.value v') w':=fun {v' w'} hr => by
   unfold execOp;simp only [ho,resolve,K,D,S,invoke,builtin,Sem.run_bind,Sem.run_pure,Result.andThen_ok,yk,yl,yp,hr]
  have A:=zjI (σ:=r.st) b;have aA : (Ob.cells m i.size es).grow n (ys.map fun e => e.map C.f) = .cells (m + 1) i.size (es.take n ++ ys.map fun e => e.map C.f):=rfl;rw [aA] at kk;have M : ∀ aE,Low r.base r.lim (r.setOb id aE).st:=fun aE => L.set
  by_cases G : n + ys.length ≤ c0
  ·have k : es ≠ []:=fun h => by
    have:=B (by rw [h]; rfl);omega
   obtain ⟨arr,ty,q0,q1,q2,q3,q4,q5⟩:=zy2 R0 E k ⟨b0,c0,rfl,Z,B,H⟩ (by simpa using b.1) A (by simpa using G) (by simpa using N);subst q0;rw [ym] at q5;refine zbk (r1:=r.setOb id (.cells (m + 1) i.size (es.take n ++ ys.map fun e : List Fz => e.map C.f))) F hd q3 q4 (M _) rfl rfl (hexec ?_) (by simp only [ze]; exact q5) kk;rw [e0,ex];have:=zgX (P:=P) (w:=w) (ty:=o.type) (off:=0) (sLen:=n) (sCap:=c0) (c:=c) ht hi q1 b.1 aB l J G (by simpa using q2);simpa using this
  ·have aP:=grownCap_ge w (n + ys.length) c0 e
   obtain ⟨us,X,aI,U,aK⟩ : ∃ us,us.length = n * i.size ∧ At w b0 us ∧ zb9 g w r.st us.toArray i.size (es.take n) ∧ (b0 = none → c0 = 0):=by
    by_cases k : es = []
    ·have h3:=B (by rw [k]; rfl)
     have h4 : n = 0:=(by omega);subst h4;exact ⟨[],by simp,fun ad _ j v h => by simp at h,fun i e h => by simp at h,fun _ => h3⟩
    ·obtain ⟨f1,f2,arr,ty,f3,f4⟩:=H fun h => k (ya h)
     obtain ⟨_,_,aG,aS,m1,m2,m3⟩:=R0.ob id _ E k;rw [m1] at f3;injection f3 with f3;injection f3 with f3 _;subst f3;have aR : n * i.size ≤ es.length * i.size:=yd _ (by omega);refine ⟨aG.toList.take (n * i.size),by rw [yj,yq]; omega,fun ad I j v W => ?_,fun q e hq => ?_,fun hb => ?_⟩
     ·rw [yb] at W
      split at W
      ·have O : c0 ≠ 0:=fun h => by
        have h4 : n = 0:=(by omega);subst h4;omega
       rw [f2 O] at I;injection I with I;subst I;rw [zaf,zfQ m1];rw [ye] at W;simpa using W
      ·cases W
     ·rw [yb] at hq
      split at hq
      ·refine ⟨(m3 q e hq).1,fun j c O => ?_⟩
       obtain ⟨u,k1,k2,k3⟩:=(m3 q e hq).2 j c O;have W : j < i.size:=(by have:=za O; have:=(m3 q e hq).1; omega);refine ⟨u,?_,k2,k3⟩;rw [List.getElem?_toArray,yb,if_pos (inside (by assumption) W),ye];exact k1
      ·cases hq
     ·rcases yo c0 with h5 | h5
      ·exact h5
      ·rw [f2 (by omega)] at hb; cases hb
   have aM : n ≤ es.length:=by
    by_cases k : es = []
    ·have:=B (by rw [k]; rfl); omega
    ·have:=(H fun h => k (ya h)).1; omega
   have aJ:=zgW (P:=P) (w:=w) (ty:=o.type) ht hi h2 X aI aK Z (c:=c) b.1 aB l (by omega) aC hb;obtain ⟨D1,D2⟩:=drawn R0 1
   obtain ⟨g',q3,q4,q5⟩:=zyE (e:=e) (c:=grownCap w (n + ys.length) c0 e) (arr:=us.toArray ++ news.toArray ++ Builtin.zeroCells z.cells (grownCap w (n + ys.length) c0 e - (n + ys.length))) D2 E aM X (D1.zb9 U) (by simpa using b.1) (D1.zb9 A) (by simpa using aP) (by simpa using N)
    ⟨(Builtin.zeroCells z.cells (grownCap w (n + ys.length) c0 e - (n + ys.length))).toList,by simp⟩ (by
      simp only [yu,yt,size_zeroCells,aN,X,b.1,← yh]
      congr 1
      omega)
   rw [ym] at q5;refine zbk (r1:=r.setOb id (.cells (m + 1) i.size (es.take n ++ ys.map fun e : List Fz => e.map C.f))) F hd (D1.trans q3) q4 (M _) rfl rfl (hexec ?_) (by simp only [ze]; exact q5) kk;rw [e0,ex];exact aJ
 ·split at h
  ·rename_i O
   obtain ⟨p,aT⟩:=O;injection h with h;subst h;have aL : ys = []:=ya (by omega);have aO : n = 0:=(by omega);subst aL aO;obtain ⟨es,rfl⟩:=zik p;have y:=zeG Y E;obtain ⟨b0,c0,e0,Z,B,H⟩:=y;obtain ⟨a',c,news,ex,b,aB,l⟩:=zgp R0 aH aD aF
   have hexec : ∀ {v' : Value} {w' : World},(Builtin.append_ #[t,t] o.type #[a.eval s,a.eval x]).run P w = .ok v' w' → (execOp a.eval o).run P w = .ok (.value v') w':=fun {v' w'} hr => by
    unfold execOp;simp only [ho,resolve,K,D,S,invoke,builtin,Sem.run_bind,Sem.run_pure,Result.andThen_ok,yk,yl,yp,hr]
   refine zjA R0 L F hd (hexec (v':=.slice b0 0 c0) ?_) ?_ kk
   ·rw [e0,ex]
    exact zhk ht hi
   ·rw [← e0]
    exact Y
  ·cases h
theorem zsX {σ : zb} (o : Ob) {v : V} {ys : List (List Fz)} (h : elems σ v = some ys) : elems (σ ++ [o]) v = some ys:=by
 unfold elems at h ⊢;split at h
 ·rw [yc] at h
  obtain ⟨d,b,c⟩:=h;have a:=za b;simp only [List.getElem?_append_left a,b,Option.bind_some];exact c
 ·exact h
 ·exact h
 ·cases h
theorem zvR (I : Rel g w r.st) (L : Low r.base r.lim r.st) (F : Fr κ loc nt g w r a) {t e : TypeId} {s x : Operand} {sz : Nat} {i : TypeInfo} {K : List Value} {ct : Go.Call}
  (C : o.op = .call ct) (c : ct.callee = .builtin .append) (b : ct.args = #[s,x]) (f : ct.argTypes = #[t,t])
  (hd : okD κ nt o.dst d = true) (J : P.underlying t = some (.slice e)) (y : P.info? e = some i) (A : i.bytes ≤ 32768) (E : i.size = sz) (z : 0 < sz) (D : zeroOf P e = some K) (m : K.length = sz)
  {vs M : V} (p : ze g w r.st vs (a.eval s)) (q : ze g w r.st M (a.eval x))
  {r1 : R} (h : ((elems r.st M).bind fun ys => if zpv sz ys then zAy r d sz ys vs else none) = some r1) (B : znO κ (zaH o.dst d :: loc) nt g w r r1 (a.put o.dst) next) : o.wp P a w next Q:=by
 rw [yc] at h;obtain ⟨ys,j,h⟩:=h;split at h
 ·rename_i l
  unfold zAy at h;split at h
  ·exact zxa I L F C c b f hd J y A E z D m p q j l h B
  ·exact zBa I L F C c b f hd J y A E z D m p q j l h B
  ·split at h
   ·rename_i U
    obtain ⟨hu,_⟩:=zH p
    obtain ⟨H,Y⟩:=zqg I sz [0] (fun _ => .slice none 0 0) (fun k n v => ⟨by
     cases k with
     | zero => simp at v; exact v.symm
     | succ k => simp at v,none,rfl⟩)
    have G : ze (g.nils r.st.length fun _ => .slice none 0 0) w (r.alloc (.tok sz [0])).st (.one (.ap r.st.length 0 [])) (a.eval s):=by
     rw [hu];simp only [ze];exact zx0 (sz:=sz) [0] (by simp) rfl
    refine zxa (r:=r.alloc (.tok sz [0])) (r1:=r1) Y (L.append _) (F.ext H rfl rfl) C c b f hd J y A E z D m G (H.ze _ _ q) (zsX _ j) l ?_ fun N S u W O X Z => B N S u (H.trans W) O X Z;rw [← h];simp [R.alloc,zlG,Ob.front,Ob.setFront,R.setOb,U]
   ·cases h
  ·cases h
 ·cases h
theorem zzb {σ : zb} (R : Rel g w σ) {id z sz lo : Nat} {es : List (List C)} {ys : List (List Fz)} {news : List Value} (r : σ[id]? = some (.cells z sz es)) (O : es ≠ []) (A : Lay w g.N sz ys news) (h1 : ∀ v ∈ news,v.oneCell' = true) (h0 : 0 < sz) (hle : lo + ys.length ≤ es.length) :
  ∃ arr t,w.heap[g.ρ id]? = some (.cells arr t (0,0)) ∧ lo * sz + news.length ≤ arr.size ∧
    Ext g w σ g (w.setRow (g.ρ id) (zbs arr (lo * sz) news)) (σ.set id (.cells z sz (es.take lo ++ (ys.map (fun e => e.map C.f) ++ es.drop (lo + ys.length))))) ∧
    Rel g (w.setRow (g.ρ id) (zbs arr (lo * sz) news)) (σ.set id (.cells z sz (es.take lo ++ (ys.map (fun e => e.map C.f) ++ es.drop (lo + ys.length))))):=by
 obtain ⟨J,U,arr,t,I,M,s⟩:=R.ob id _ r O;have aB : news.length = ys.length * sz:=A.1
 have l : lo * sz + news.length ≤ arr.size:=by
  have : (lo + ys.length) * sz ≤ es.length * sz:=yd _ hle;rw [yh] at this;omega
 refine ⟨arr,t,I,l,?_⟩;have B:=zjI (σ:=σ) A;have S : g.ρ id < w.heap.size:=(Array.getElem?_eq_some_iff.1 I).1
 have y : (es.take lo ++ (ys.map (fun e => e.map C.f) ++ es.drop (lo + ys.length))).length = es.length:=by
  simp;omega
 refine replace (g':=g) R r (fun b => b = g.ρ id) rfl rfl rfl (by simp) (fun b L ht => ⟨setRow_other w _ _ _ ht,rfl,fun _ h => h⟩)
  (fun b L => ⟨.inl (by rw [L]; exact J),rfl,fun o h => absurd (by rw [L] at h; exact h) (U o)⟩) (fun _ _ _ h => h) (fun _ _ => rfl) (fun _ _ _ => rfl) (fun b o h => by simpa using R.nb b o h) ?_ ?_ ?_ (fun _ _ h => by cases h) ?_
 ·intro Y aA V K
  refine .inl ⟨?_,rfl,fun _ X t0 p => ?_⟩
  ·rw [zo r] at K
   injection K with K;rw [zo (zn r),← K,y]
  ·rw [I] at p
   injection p with p;injection p with p hq1;subst p;subst hq1;exact ⟨_,setRow_heap w _ _ _ _ _ I,zc4 l⟩
 ·intro es' h; cases h
 ·intro k n h; simp [zkF,r,Ob.fr] at h
 ·intro H W
  refine ⟨J,U,_,t,setRow_heap w _ _ _ _ _ I,by rw [zc4 l,y]; exact M,fun i x m => ?_⟩
  have D : ∀ i x,es[i]? = some x → (i < lo ∨ lo + ys.length ≤ i) → x.length = sz ∧ ∀ j c,x[j]? = some c → ∃ u,(zbs arr (lo * sz) news)[i * sz + j]? = some u ∧ zq g (w.setRow (g.ρ id) (zbs arr (lo * sz) news)) (σ.set id (.cells z sz (es.take lo ++ (ys.map (fun e => e.map C.f) ++ es.drop (lo + ys.length))))) c u ∧ u.oneCell' = true:=fun i x m E => by
   refine ⟨(s i x m).1,fun j c G => ?_⟩;obtain ⟨u,a,b,d⟩:=(s i x m).2 j c G;have Q : j < sz:=(by have:=za G; have:=(s i x m).1; omega);refine ⟨u,?_,H.zq c u b,d⟩;rw [zdb l];rcases E with E | E
   ·have:=inside (q:=j) E Q
    rw [if_pos (by omega)];exact a
   ·have Z : (lo + ys.length) * sz ≤ i * sz:=yd _ E
    rw [yh] at Z;rw [if_neg (by omega),if_neg (by omega)];exact a
  rw [yn] at m
  by_cases c1 : i < lo
  ·rw [if_pos (by simp; omega),yb,if_pos c1] at m
   exact D i x m (.inl c1)
  ·rw [if_neg (by simp; omega),yn] at m
   have P : (es.take lo).length = lo:=(by simp; omega);rw [P] at m
   by_cases c2 : i - lo < ys.length
   ·rw [if_pos (by simpa using c2)] at m
    obtain ⟨k1,k2⟩:=B (i - lo) x m;refine ⟨k1,fun j c G => ?_⟩;obtain ⟨u,a,b,d⟩:=k2 j c G;have Q : j < sz:=(by have:=za G; omega);refine ⟨u,?_,H.zq c u b,d⟩;rw [zdb l];have e1 : i * sz = lo * sz + (i - lo) * sz:=(by rw [← yh]; congr 1; omega);have e2:=inside (q:=j) c2 Q;rw [if_neg (by omega),if_pos (by omega),show i * sz + j - lo * sz = (i - lo) * sz + j from by omega];simpa using a
   ·rw [if_neg (by simpa using c2),yg] at m
    simp only [ym] at m;rw [show lo + ys.length + (i - lo - ys.length) = i from by omega] at m;exact D i x m (.inr (by omega))
theorem zzN {N : zeb} {sz k : Nat} {ys : List (List Fz)} {news : List Value} (h : Lay w N sz ys news) (o : k ≤ ys.length) : Lay w N sz (ys.take k) (news.take (k * sz)):=by
 obtain ⟨r,m,p⟩:=h;have l : k * sz ≤ ys.length * sz:=yd _ o;refine ⟨by rw [yj,yj,r,yv l,yv o],zcT fun e he => zdd m e (yi he),fun i e d j x n => ?_⟩;rw [yb] at d;split at d
 ·rename_i g
  obtain ⟨u,a,b,c⟩:=p i e d j x n;have f : j < sz:=by have:=za n; have:=zba m d; omega
  have:=inside (q:=j) g f;exact ⟨u,by rw [yb,if_pos this]; exact a,b,c⟩
 ·cases d
theorem zxR (R0 : Rel g w r.st) (L : Low r.base r.lim r.st) (F : Fr κ loc nt g w r a) {t t' e : TypeId} {x y : Operand} {sz : Nat} {ct : Go.Call}
  (ho : o.op = .call ct) (u : ct.callee = .builtin .copy) (m : ct.args = #[x,y]) (E : ct.argTypes = #[t,t'])
  (hd : okD κ nt o.dst d = true) (ht : P.underlying t = some (.slice e)) (M : zgf P e = some sz) (h0 : 0 < sz)
  {vx vy : V} (Y : ze g w r.st vx (a.eval x)) (J : ze g w r.st vy (a.eval y))
  {r1 : R} (h : ((elems r.st vy).bind fun ys => if zpv sz ys then zB4 r d sz ys vx else none) = some r1) (kk : znO κ (zaH o.dst d :: loc) nt g w r r1 (a.put o.dst) next) : o.wp P a w next Q:=by
 rw [yc] at h;obtain ⟨ys,O,h⟩:=h;split at h
 ·rename_i W
  unfold zB4 at h;split at h
  ·rename_i id aB lo n
   split at h
   ·cases h
   ·rename_i aD
    rw [yc] at h;obtain ⟨ob,C,h⟩:=h
    cases ob with
    | tok _ _ => simp [zhC] at h
    | mp _ => simp [zhC] at h
    | cells ver' sz' es =>
      simp only [zhC] at h;split at h
      ·rename_i hc
       obtain ⟨rfl,rfl,hle⟩:=hc;injection h with h;subst h;have B:=zeG Y C;obtain ⟨b0,c0,e0,aF,aC,K⟩:=B;obtain ⟨a',c,news,ex,i,Z,k⟩:=zgp R0 J O W;have b:=zsJ h0 i
       have z : es ≠ []:=fun h => by
        rw [h,List.length_nil] at hle;omega
       have p : es.length ≠ 0:=fun h => z (ya h);obtain ⟨aE,aA,_⟩:=K p;have hb:=aA (by omega);subst hb;have hk : min ys.length n ≤ ys.length:=Nat.min_le_left _ _;have f:=zzN i hk;have q : (ys.take (min ys.length n)).length = min ys.length n:=(by simp);obtain ⟨arr,ty,hh,s,H,R1⟩:=zzb (lo:=lo) R0 C z f (fun v S => b v (yi S)) h0 (by rw [q]; exact hle);rw [q] at H R1
       obtain ⟨ad,rfl⟩ : ∃ ad,a' = some ad:=by
        cases a' with
        | none => have:=k rfl; omega
        | some ad => exact ⟨ad,rfl⟩
       have N : (news.take (min ys.length n * sz')).length = min ys.length n * sz':=by rw [f.1,q]
       have l : (loadCells ad (min ys.length n * sz')).run P w = .ok (news.take (min ys.length n * sz')).toArray w:=by
        have:=run_loadCells_list (P:=P) w ad (news.take (min ys.length n * sz')) (fun j v I => by
         rw [yb] at I;split at I
         ·exact Z ad rfl j v I
         ·cases I)
        rwa [N] at this
       have D:=run_storeCells_at P (g.ρ id) (lo * sz') ty (news.take (min ys.length n * sz')) 0 arr w hh (by simpa using s) (fun v S => b v (yi S));simp only [yw] at D
       have G : (execOp a.eval o).run P w = .ok (.value (goInt (min ys.length n : Nat))) (w.setRow (g.ρ id) (zbs arr (lo * sz') (news.take (min ys.length n * sz')))):=by
        unfold zgf at M
        cases X : P.info? e with
        | none => simp [X] at M
        | some inf =>
          have U : inf.size = sz':=(by simpa [X] using M);have A : Nat.min ys.length n = min ys.length n:=rfl;unfold execOp;simp only [ho,resolve,u,m,E,invoke,builtin,Sem.run_bind,Sem.run_pure,Result.andThen_ok,yk,yl,yp,e0,ex];simp [Builtin.copy_,run_underlying ht,Builtin.lenOf,Builtin.firstCells,sizeOf,typeInfo,X,U,A,l,D,zbs]
       refine zbk (r1:=r.setOb id _) F hd H R1 L.set rfl rfl G ?_ kk;exact zI rfl
      ·cases h
  ·cases h
 ·cases h
end
end Go.A

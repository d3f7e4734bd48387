/- A part of the proof of AliasBoth. Conditions: none. -/
import Derived.Test.YtmkncmffaaninaaGreatAAN
import Derived.Below
import Derived.WalkSpells
set_option linter.all false
open Array renaming getElem?_eq_some_iff → ya,getElem?_setIfInBounds → yf,getElem?_toList → yi,toList_filter → yj
open Option renaming bind_eq_some_iff → yb,map_some → yr
open Bool renaming and_eq_true → yc,not_eq_true' → ye
open Nat renaming le_refl → yd,zero_add → ys
open List renaming mem_cons → yg,filterMap_append → yh,mem_filterMap → yk,not_mem_nil → yl,length_cons → ym,nodup_cons → yn,mem_filter → yo,mem_append → yp,range → yq,range' → yt
namespace Go.A
open Go.ChangeMaps (setBlock)
section
variable {P : Program} {κ : List Tmp} {nt : Nat}
def Nums.bodyB (n : Nums) : List (Option Tmp × Go.Op):=[(some n.t21,.next (.tmp n.tit) false),(some n.t22,.extract (.tmp n.t21) 0)]
theorem zzl {g g0 : G} {w w0 : World} {σ σ0 : zb} (R : Rel g w σ) (b : Ext g0 w0 σ0 g w σ) {a : World} (h : a = w ∨ a = w.drew) : Ext g0 w0 σ0 g a σ ∧ Rel g a σ ∧ (∀ v u,ze g w σ v u → ze g a σ v u) ∧ a.heap = w.heap:=by
 rcases h with rfl | rfl
 ·exact ⟨b,R,fun _ _ h => h,rfl⟩
 ·obtain ⟨c,d⟩:=drawn R 1
  exact ⟨b.trans c,d,fun v u h => c.ze v u h,rfl⟩
theorem zr8 {g : G} {w : World} {σ : zb} : ∀ {es : List (Int × V)} {zB : List MapEntry},zmT g w σ es zB → es.length = zB.length ∧ ∀ (i : Nat) (x : Int × V),es[i]? = some x → ∃ e : MapEntry,zB[i]? = some e ∧ e.key = .int .i64 x.1 ∧ ze g w σ x.2 e.val
 | [],zB,h => by
   have : zB = []:=h;subst this;exact ⟨rfl,fun i x a => by simp at a⟩
 | y :: es,_,h => by
   obtain ⟨e,rest,rfl,j,b,f⟩:=h;obtain ⟨c,d⟩:=zr8 f;refine ⟨by simp [c],fun i x a => ?_⟩
   cases i with
   | zero => simp at a; subst a; exact ⟨e,by simp,j,b⟩
   | succ i => simpa using d i x (by simpa using a)
theorem nodup_lt_length : ∀ (n : Nat) (l : List Nat),l.Nodup → (∀ x ∈ l,x < n) → l.length ≤ n
 | 0,l,_,h => by
   cases l with
   | nil => simp
   | cons x l => have:=h x (by simp); omega
 | n + 1,l,hn,h => by
   by_cases hm : n ∈ l
   ·have d:=List.length_erase_of_mem hm
    have c:=nodup_lt_length n (l.erase n) (hn.erase n) fun x a => by
     have b:=(hn.mem_erase_iff).1 a;have:=h x b.2;have:=b.1;omega
    omega
   ·have:=nodup_lt_length n l hn fun x a => by
     have:=h x a;have : x ≠ n:=fun e => hm (e ▸ a);omega
    omega
theorem zwe {n : Nums} {off sz row : Nat} (T : TyOk P n off sz row) (aJ : n.fresh.Nodup) (hk : ∀ t ∈ n.fresh,κ.contains t = false ∧ t < nt) {D O W : Array Go.Oper} (hB : zew D.toList n.bodyB = true) (hC : zew O.toList n.bodyC = true) (hD : zew W.toList n.bodyD = true) {ib i0 i2 ic aU dst : Nat} (aM : κ[dst]? = some n.t5)
  {g0 : G} {w0 : World} {σ : zb} {env : List V} {b l id q bm clock r : Nat} {zB : Array MapEntry} {p : List (Int × V)} {Q : Exit → Act → World → Prop}
  (aR : id ≠ q) {es : List (Int × V)} (aP : σ[id]? = some (.mp es)) (aN : σ[q]? = some (.mp p)) (aK : env.getD dst vun = .one (.map q)) (B : (zB.toList.map (·.born)).Nodup) (H : ∀ e ∈ zB.toList,e.born < clock)
  {es' : List (Int × V)} (hm : zmT g0 w0 σ es' zB.toList) (f : V → V) (hf : ∀ x ∈ es',x.2.cells.length = row ∧ C.kns x.2.cells = true ∧ ztB off (some sz) x.2 = some (f x.2))
  (hQ : ∀ (is : List Nat) (ds : List (Int × V)) (g : G) (w : World) (a : Act),is.Nodup → (∀ i,i ∈ is ↔ i < zB.size) → ds = zp0 (is.filterMap fun i => (es'[i]?).map fun x => (x.1,f x.2)) p → Cp κ nt g0 w0 σ σ env b l id q bm clock zB n.tit r (is.filterMap fun i => (zB[i]?).map (·.born)).toArray ds g w a → Q (.exit i0) a w) :
  ∀ (m : Nat) (is : List Nat) (g : G) (w : World) (a : Act),zB.size - is.length = m → is.Nodup → (∀ i ∈ is,i < zB.size) →
  Cp κ nt g0 w0 σ σ env b l id q bm clock zB n.tit r (is.filterMap fun i => (zB[i]?).map (·.born)).toArray (zp0 (is.filterMap fun i => (es'[i]?).map fun x => (x.1,f x.2)) p) g w a →
  RL P (.seq (.region ib D false) (.seq (.cond (.tmp n.t22) .skip (.exit i0)) (.block i2 (.seq (.region ic O false) (.region aU W false))))) Q a w:=by
 obtain ⟨lB⟩:=D;simp only [Nums.bodyB] at hB;obtain ⟨o0,l1,rfl,⟨p0,q0,r0⟩,hB⟩:=zaa hB;obtain ⟨o1,l2,rfl,⟨p1,q1,r1⟩,hB⟩:=zaa hB;have aZ:=zio hB;subst aZ;have U:=aJ;have aF:=hk;simp only [Nums.fresh,yn,yg,yl,or_false,not_or,List.nodup_nil,and_true,not_false_eq_true] at U;obtain ⟨⟨e1,e2,_⟩,⟨f1,_⟩,_⟩:=U;simp only [Nums.fresh,yg,yl,or_false,forall_eq_or_imp,forall_eq] at aF;obtain ⟨bC,X,N,_⟩:=aF;obtain ⟨hlen,bB⟩:=zr8 hm;intro m
 induction m using Nat.strongRecOn with
 | _ m ih =>
   intro is g w a bD Y z Z;have L:=Z.fr.size;obtain ⟨c0,aL,hr⟩:=Z.hr
   have aQ : bm ≠ r:=fun e => by
    have:=Z.hb;rw [e,hr] at this;cases this
   have aC : ∀ e ∈ (leftOf zB (is.filterMap fun i => (zB[i]?).map (·.born)).toArray).toList,∃ i,zB[i]? = some e ∧ i ∉ is:=fun e he => by
    unfold leftOf at he;simp only [yj,yo,ye] at he;obtain ⟨aY,aI⟩:=he;obtain ⟨i,K⟩:=List.mem_iff_getElem?.1 aY;refine ⟨i,by simpa using K,fun aT => ?_⟩
    have : e.born ∈ is.filterMap fun i => (zB[i]?).map (·.born):=yk.2 ⟨i,aT,by
     have : zB[i]? = some e:=by simpa using K
     rw [this]; rfl⟩
    simp at aI;simp at this;obtain ⟨i',J,h2,h3⟩:=this;exact aI i' J h2 h3.1 h3.2
   have aH : (leftOf zB (is.filterMap fun i => (zB[i]?).map (·.born)).toArray).size = 0 → ∀ i,i ∈ is ↔ i < zB.size:=fun h0 i => by
    refine ⟨z i,fun K => ?_⟩;refine Classical.byContradiction fun aD => ?_
    have S : zB[i] ∈ (leftOf zB (is.filterMap fun i => (zB[i]?).map (·.born)).toArray).toList:=by
     unfold leftOf;simp only [yj,yo,ye];refine ⟨by simp,?_⟩;rw [Bool.eq_false_iff];intro hc;have aS : zB[i].born ∈ is.filterMap fun i => (zB[i]?).map (·.born):=by simpa using hc
     obtain ⟨i',J,h2⟩:=yk.1 aS;have aO:=z i' J;rw [Array.getElem?_eq_getElem aO] at h2;simp only [yr,Option.some.injEq] at h2;have : i' = i:=zg9 B (i:=i') (j:=i) (x:=zB[i].born) (by simp [aO,h2]) (by simp [K]);subst this;exact aD J
    have : (leftOf zB (is.filterMap fun i => (zB[i]?).map (·.born)).toArray).toList = []:=by
     rw [← List.length_eq_zero_iff];simpa using h0
    rw [this] at S;simp at S
   refine zsg (wp_seq (zcd ?_));rcases run_next_at (P:=P) w o0.type r bm clock c0 _ zB clock hr Z.hb H aL with ⟨h0,E⟩ | ⟨e,aW,w1,aV,E⟩
   ·
    refine zcj (o:=o0) rfl p0 q0 X (znv r0 Z.it E) fun a0 M => ?_;refine zcj (o:=o1) rfl p1 q1 N (zd1 r1 (M.val L) rfl) fun a1 P1 => ?_
    show Exit.then _ _ .normal a1 w
    simp only [Exit.then];refine wp_seq (wp_cond_false (P1.val (M.size L)) (wp_exit ?_));simp only [Exit.then];refine hQ is _ g w a1 Y (aH h0) rfl ⟨Z.ext,Z.rel,P1.fr (M.fr Z.fr),(P1.other _ e2).trans ((M.other _ e1).trans Z.it),⟨c0,aL,hr⟩,Z.hb,Z.rho,Z.ow,Z.no,Z.new⟩
   ·
    obtain ⟨i,K,aD⟩:=aC e aW;have A : i < zB.size:=(ya.1 K).1;obtain ⟨D1,D2,D3,D4⟩:=zzl Z.rel Z.ext aV;obtain ⟨B1,B2,B3⟩:=zDI D2 D1 Z.new Z.ow Z.no (.mapIter (some bm) clock ((is.filterMap fun i => (zB[i]?).map (·.born)).toArray.push e.born) clock);refine zcj (o:=o0) rfl p0 q0 X (znv r0 Z.it E) fun a0 M => ?_;refine zcj (o:=o1) rfl p1 q1 N (zd1 r1 (M.val L) rfl) fun a1 P1 => ?_
    show Exit.then _ _ .normal a1 _
    simp only [Exit.then];refine wp_seq (wp_cond_true (P1.val (M.size L)) (wp_skip ?_));simp only [Exit.then];have aB : i < es'.length:=(by rw [hlen]; simpa using A);obtain ⟨I,J,h2,h3⟩:=bB i es'[i] (List.getElem?_eq_getElem aB)
    have aX : I = e:=by
     have : zB.toList[i]? = some e:=(by simpa using K);rw [this] at J;injection J with J;exact J.symm
    subst aX;obtain ⟨t1,t2,t3⟩:=hf es'[i] (List.getElem_mem aB)
    have c : ((is ++ [i]).filterMap fun i => (zB[i]?).map (·.born)).toArray = (is.filterMap fun i => (zB[i]?).map (·.born)).toArray.push I.born:=by
     rw [yh];simp [K]
    have aE : r < w.heap.size:=(ya.1 hr).1
    have R : (setBlock w1 r (.mapIter (some bm) clock ((is.filterMap fun i => (zB[i]?).map (·.born)).toArray.push I.born) clock)).heap[r]? = some (.mapIter (some bm) clock ((is.filterMap fun i => (zB[i]?).map (·.born)).toArray.push I.born) clock):=by
     show (w1.heap.setIfInBounds r _)[r]? = _
     rw [D4,yf];simp [aE]
    have hZ : Cp κ nt g0 w0 σ σ env b l id q bm clock zB n.tit r ((is ++ [i]).filterMap fun i => (zB[i]?).map (·.born)).toArray (zp0 (is.filterMap fun i => (es'[i]?).map fun x => (x.1,f x.2)) p) g (setBlock w1 r (.mapIter (some bm) clock ((is.filterMap fun i => (zB[i]?).map (·.born)).toArray.push I.born) clock)) a1 :=
     ⟨B1,B2,P1.fr (M.fr (Z.fr.tr fun v u h => B3 v u (D3 v u h))),(P1.other _ e2).trans ((M.other _ e1).trans Z.it),⟨clock,yd _,by rw [c]; exact R⟩,by
      show (w1.heap.setIfInBounds r _)[bm]? = _
      rw [D4,yf,if_neg (Ne.symm aQ)]
      exact Z.hb,Z.rho,Z.ow,Z.no,Z.new⟩
    have bA : ze g (setBlock w1 r (.mapIter (some bm) clock ((is.filterMap fun i => (zB[i]?).map (·.born)).toArray.push I.born) clock)) (σ.set q (.mp (zp0 (is.filterMap fun i => (es'[i]?).map fun x => (x.1,f x.2)) p))) es'[i].2 I.val:=B1.ze _ _ h3
    refine zwY (v:=es'[i].2) (v':=f es'[i].2) (k:=es'[i].1) (e:=I) T aJ hk hC hD aM aR aP aN aK hZ (by rw [R,c]; simp) (by rw [c]; simp) (by
     have : zB.toList[i]? = some I:=by simpa using K
     exact List.mem_of_getElem? this) B h2 bA t1 t2 t3 fun g' w' a' Z' => ?_
    simp only [Exit.then]
    have aA : zdW es'[i].1 (f es'[i].2) (zp0 (is.filterMap fun i => (es'[i]?).map fun x => (x.1,f x.2)) p) = zp0 ((is ++ [i]).filterMap fun i => (es'[i]?).map fun x => (x.1,f x.2)) p:=by
     rw [yh,zsx];simp [aB,zp0]
    rw [aA] at Z'
    have s : (is ++ [i]).Nodup:=List.nodup_append.2 ⟨Y,by simp,fun x d y hy => by
     simp at hy;subst hy
     exact fun e => aD (e ▸ d)⟩
    have aG : (is ++ [i]).length ≤ zB.size:=by
     refine nodup_lt_length _ _ s fun x d => ?_;rcases yp.1 d with d | d
     ·exact z x d
     ·simp at d; subst d; exact A
    refine ih (zB.size - (is ++ [i]).length) (by simp at aG ⊢; omega) (is ++ [i]) g' w' a' rfl s (fun x d => ?_) Z';rcases yp.1 d with d | d
    ·exact z x d
    ·simp at d; subst d; exact A
end
end Go.A
namespace Go.A
section
variable {P : Program} {κ : List Tmp} {nt : Nat}
def zxY : List Go.Oper → List Oper → List (Option Tmp) → List (Option Tmp)
 | o :: os,x :: xs,loc => zxY os xs (zaH o.dst x.dst :: loc)
 | _,_,loc => loc
theorem zwM {c : zL} (S : zen P c) {gops : Array Go.Oper} {Q : Exit → Act → World → Prop} {rest : List Nat} : ∀ (os : List Go.Oper) (xs : List Oper) (i : Nat) {loc : List (Option Tmp)} {g : G} {w : World} {r : R} {a : Act} {r1 : R},(∀ j,j < os.length → os[j]? = gops[i + j]?) → zhj P κ nt gops loc os xs = true → steps c xs r = some r1 → Rel g w r.st → Fr κ loc nt g w r a →
  (∀ g' w' a',Ext g w r.st g' w' r1.st → Rel g' w' r1.st → Fr κ (zxY os xs loc) nt g' w' r1 a' → wpOps P gops Q rest a' w') → wpOps P gops Q (yt i os.length ++ rest) a w
 | [],[],i,loc,g,w,r,a,r1,_,_,h,R0,F,k => by
   simp only [steps,Option.some.injEq] at h;subst h;exact k g w a (Ext.refl _ _ _) R0 F
 | o :: os,x :: xs,i,loc,g,w,r,a,r1,hi,hc,h,R0,F,k => by
   simp only [zhj,yc] at hc;obtain ⟨⟨⟨p,d⟩,f⟩,v⟩:=hc;simp only [steps,yb] at h;obtain ⟨z,q,y⟩:=h;have b : gops[i]? = some o:=(by simpa using (hi 0 (by simp)).symm);rw [ym,List.range'_succ]
   have key:=zcc (Q:=Q) (gops:=gops) (next:=wpOps P gops Q (yt (i + 1) os.length ++ rest)) S R0 F p d f q (fun g' w' a' H t _ l =>
    zwM S os xs (i + 1) (fun j A => by
     have:=hi (j + 1) (by simp; omega);rw [show i + (j + 1) = i + 1 + j from by omega] at this;rw [← this]
     simp) v y t l fun e n a2 s m u => k e n a2 (H.trans s) m u) (fun _ h => h)
   simp only [List.cons_append,wpOps,b];split
   ·rename_i hw
    rw [if_pos hw] at key;exact .inl key
   ·rename_i hw
    rw [if_neg hw] at key;exact key
 | [],_ :: _,_,_,_,_,_,_,_,_,hc,_,_,_,_ => by simp [zhj] at hc
 | _ :: _,[],_,_,_,_,_,_,_,_,hc,_,_,_,_ => by simp [zhj] at hc
def zv3 (P : Program) (n : Nums) (off sz row : Nat) : Bool :=
 (match zeroOf P n.ty with
  | some zs => zs.length == row
  | none => false) && zgf P n.ty == some row && decide (0 < row) &&
 (match P.underlying n.ty with
  | some (.struct fs) => (match fs[n.fi]? with
    | some f => (match zgf P f.type with
      | some k => decide (k ≠ 0)
      | none => false) && f.offset == off
    | none => false)
  | _ => false) && ziB P n.lt == some true && zgf P n.lt == some sz &&
 (match P.underlying n.dt with
  | some (.map key _) => (match P.underlying key with
    | some (.int .i64) => true
    | _ => false)
  | _ => false) && (match P.underlying n.mt with
  | some (.map _ _) => true
  | _ => false)
def zpI (P : Program) (κ : List Tmp) (nt : Nat) (sp : Spec) (n : Nums) : Go.Code → Bool
 | .seq (.region _ opsA false) (.block i0 (.loop (.seq (.region _ opsB false) (.seq (.cond (.tmp tc) .skip (.exit i1)) (.block _ (.seq (.region _ opsC false) (.region _ opsD false))))))) =>
   (match sp.sz with
    | some sz => zv3 P n sp.off sz sp.row
    | none => false) && tc == n.t22 && i1 == i0 && zhj P κ nt opsA [] (opsA.toList.take sp.pre.length) sp.pre && zew (opsA.toList.drop sp.pre.length) [(some n.tit,.range n.mt (.tmp n.tm))] &&
   okX κ (zxY (opsA.toList.take sp.pre.length) sp.pre []) (.tmp n.tm) sp.m && zew opsB.toList n.bodyB && zew opsC.toList n.bodyC && zew opsD.toList n.bodyD && zg7 n.fresh && n.fresh.all (fun t => !κ.contains t && decide (t < nt)) && κ[sp.dst]? == some n.t5
 | _ => false
def zmU (P : Program) (κ : List Tmp) (nt : Nat) (c : Go.Code) (sp : Spec) : Bool:=match zCe sp.ns with
 | some n => zpI P κ nt sp n c
 | none => false
theorem zwF {n : Nums} {off sz row : Nat} (h : zv3 P n off sz row = true) : TyOk P n off sz row ∧ ∃ k e,P.underlying n.mt = some (.map k e):=by
 unfold zv3 at h;simp only [yc,beq_iff_eq,decide_eq_true_eq] at h;obtain ⟨⟨⟨⟨⟨⟨⟨d,j⟩,m⟩,a⟩,r⟩,t⟩,b⟩,i⟩:=h;refine ⟨⟨?_,j,m,?_,r,t,?_⟩,?_⟩
 ·split at d
  ·rename_i l s
   exact ⟨l,s,by simpa using d⟩
  ·cases d
 ·split at a
  ·rename_i q c
   split at a
   ·rename_i f o
    simp only [yc,beq_iff_eq] at a;obtain ⟨a,p⟩:=a;split at a
    ·rename_i k g
     exact ⟨q,f,k,c,o,g,by simpa using a,p⟩
    ·cases a
   ·cases a
  ·cases a
 ·split at b
  ·rename_i key e hd
   split at b
   ·rename_i g
    exact ⟨key,e,hd,g⟩
   ·cases b
  ·cases b
 ·split at i
  ·rename_i k e hm
   exact ⟨k,e,hm⟩
  ·cases i
def zky (off sz : Nat) (v : V) : V:=(ztB off (some sz) v).getD vun
theorem zj4 {off sz row : Nat} : ∀ {es ds a : List (Int × V)},zfB off (some sz) row es ds = some a → (∀ x ∈ es,x.2.cells.length = row ∧ C.kns x.2.cells = true ∧ ztB off (some sz) x.2 = some (zky off sz x.2)) ∧ a = zp0 (es.map fun x => (x.1,zky off sz x.2)) ds
 | [],ds,a,h => by
   simp only [zfB,Option.some.injEq] at h;exact ⟨fun x b => by simp at b,h.symm⟩
 | e :: es,ds,a,h => by
   simp only [zfB] at h;split at h
   ·rename_i c
    rw [yb] at h;obtain ⟨v,f,g⟩:=h;obtain ⟨i,j⟩:=zj4 g;have d : zky off sz e.2 = v:=(by unfold zky; rw [f]; rfl);refine ⟨fun x b => ?_,?_⟩
    ·rcases yg.1 b with rfl | b
     ·exact ⟨c.1,c.2,by rw [d]; exact f⟩
     ·exact i x b
    ·rw [j]
     simp [zp0,d]
   ·cases h
theorem zqy {l a : List Nat} (d : l.Nodup) (f : a.Nodup) (h : ∀ x,x ∈ l ↔ x ∈ a) : l.Perm a:=by
 induction l generalizing a with
 | nil =>
   cases a with
   | nil => exact .nil
   | cons y a => have:=(h y).2 (by simp); simp at this
 | cons x l ih =>
   have g : x ∈ a:=(h x).1 (by simp);rw [yn] at d;refine (List.Perm.cons x (ih d.2 (f.erase x) fun y => ?_)).trans (List.perm_cons_erase g).symm;rw [f.mem_erase_iff];constructor
   ·intro b
    exact ⟨fun e => d.1 (e ▸ b),(h y).1 (List.mem_cons_of_mem _ b)⟩
   ·rintro ⟨c,b⟩
    rcases yg.1 ((h y).2 b) with e | e
    ·exact absurd e c
    ·exact e
theorem zyf {α β : Type} (f : α → β) : ∀ (l : List α),(yq l.length).filterMap (fun i => (l[i]?).map f) = l.map f:=by
 intro l
 induction l with
 | nil => rfl
 | cons x l ih =>
   rw [ym,List.range_succ_eq_map];simp only [List.filterMap_cons,List.getElem?_cons_zero,yr,List.filterMap_map,List.map_cons]
   congr 1
theorem zux : zen P zqG:=fun _ _ _ _ _ h => by cases h
theorem zza {sp : Spec} {c : Go.Code} (h : zmU P κ nt c sp = true) (l : Nat) : Go.findLabel c l = none:=by
 unfold zmU at h;split at h
 ·unfold zpI at h
  split at h
  ·simp [Go.findLabel]
  ·cases h
 ·cases h
theorem zuW {c : Go.Code} {sp : Spec} (H : zmU P κ nt c sp = true) {s s1 : St} (he : zrn sp s = some s1) {g : G} {w : World} {a : Act} {Q : Exit → Act → World → Prop} (R0 : Rel g w s.st) (F : Fr κ [] nt g w ⟨[],s.env,s.st,s.base,s.lim⟩ a)
  (k : ∀ g' w' a',Ext g w s.st g' w' s1.st → Rel g' w' s1.st → Fr κ [] nt g' w' ⟨[],s1.env,s1.st,s1.base,s1.lim⟩ a' → Q .normal a' w') : c.wp P Q a w:=by
 unfold zmU at H;split at H
 ·rename_i n hn
  unfold zpI at H;split at H
  ·rename_i ia f i0 ib bH tc i1 i2 ic bF bI bG
   simp only [yc,beq_iff_eq] at H;obtain ⟨⟨⟨⟨⟨⟨⟨⟨⟨⟨⟨c1,c2⟩,c3⟩,c4⟩,c5⟩,c6⟩,c7⟩,c8⟩,c9⟩,aZ⟩,aK⟩,aR⟩:=H;subst c2 c3;split at c1
   ·rename_i sz aV
    obtain ⟨T,kt,et,aU⟩:=zwF c1
    have R : ∀ t ∈ n.fresh,κ.contains t = false ∧ t < nt:=fun t ht => by
     have:=List.all_eq_true.1 aK t ht;simpa using this
    have aW:=zjk aZ;unfold zrn at he;rw [yb] at he;obtain ⟨r1,aY,b⟩:=he;unfold zto at b;split at b
    ·rename_i id m hm aH
     split at b
     ·cases b
     ·rename_i aJ
      rw [yb] at b;obtain ⟨es,aO,b⟩:=b;rw [yb] at b;obtain ⟨I,aI,b⟩:=b;rw [Option.map_eq_some_iff] at b;obtain ⟨L,S,b⟩:=b;subst b;rw [aV] at S;obtain ⟨hf,aN⟩:=zj4 S;have aE:=zpp aO;have y:=zpp aI;obtain ⟨oR,lR,N,⟨pR,qR,rR⟩,X⟩:=zaa c5;have bA:=zio X;subst bA;have r : f.toList = f.toList.take sp.pre.length ++ [oR]:=by rw [← N,List.take_append_drop]
      have hlen : f.toList.length = (f.toList.take sp.pre.length).length + 1:=by
       have:=congrArg List.length r;simpa using this
      refine wp_seq (zcd ?_);rw [hlen,← List.range'_append_1];simp only [ys];refine zwM zux (f.toList.take sp.pre.length) sp.pre 0 (fun j hj => ?_) c4 aY R0 F fun z A a1 H1 R1 E => ?_
      ·rw [ys,← yi]
       rw [List.getElem?_take,if_pos (by have:=List.length_take_le sp.pre.length f.toList; omega)]
      have J:=E.get c6;rw [hm] at J;simp only [ze,zq] at J;have W : a1.tmps.getD n.tm undef = .map (some (z.ρ id)):=J.2;obtain ⟨_,_,zB,clock,hh,⟨es',q,aG,aD⟩,aX,bD⟩:=R1.ob id _ aE;have O:=E.size;have aS : Fr κ [] nt z A ⟨[],r1.env,r1.st,s.base,s.lim⟩ a1:=⟨E.size,E.len,E.env,fun d t h => by simp at h,fun d t h => by simp at h,E.nd,E.bd,E.df⟩;obtain ⟨g2,A1,A2,A3,A4,A5,A6,A7,A8⟩:=zrM (g0:=z) (w0:=A) (σ0:=r1.st) R1 (Ext.refl z A r1.st) (.mapIter (some (z.ρ id)) clock #[] clock);have aB:=run_range_map (P:=P) A n.mt kt et (z.ρ id) zB clock aU hh
      have aP : f[(f.toList.take sp.pre.length).length]? = some oR:=by
       rw [← yi];have key : ∀ (l pre : List Go.Oper),l = pre ++ [oR] → l[pre.length]? = some oR:=fun l pre e => by rw [e]; simp
       exact key _ _ r
      have bE : z.ρ id < A.heap.size:=(ya.1 hh).1;have aL : κ.contains n.tit = false ∧ n.tit < nt:=R n.tit (by simp [Nums.fresh]);refine zcj (o:=oR) aP pR qR aL (zrQ rR W aB) fun a2 P2 => ?_
      show Exit.then _ _ .normal a2 _
      simp only [Exit.then];refine wp_block (zug ?_)
      have p : r1.st.set m (.mp I) = r1.st:=by
       refine List.ext_getElem? fun j => ?_;rw [zsQ];split
       ·rename_i hj
        rw [← hj.1];exact y.symm
       ·rfl
      have bC : ∀ x ∈ es',x.2.cells.length = sp.row ∧ C.kns x.2.cells = true ∧ ztB sp.off (some sz) x.2 = some (zky sp.off sz x.2):=fun x hx => hf x (q.mem_iff.1 hx)
      have hZ : Cp κ nt z A r1.st r1.st r1.env s.base s.lim id m (z.ρ id) clock zB n.tit A.heap.size (([] : List Nat).filterMap fun i => (zB[i]?).map (·.born)).toArray (zp0 (([] : List Nat).filterMap fun i => (es'[i]?).map fun x => (x.1,zky sp.off sz x.2)) I) g2 (A.alloc (.mapIter (some (z.ρ id)) clock #[] clock)) a2:=by
       simp only [List.filterMap_nil,zp0,List.foldl_nil];rw [show ([] : List Nat).toArray = #[] from rfl];refine ⟨by rw [p]; exact A1,by rw [p]; exact A2,by rw [p]; exact P2.fr (aS.tr A3),P2.val O,⟨clock,yd _,z7 A _⟩,(heap_alloc_old A _ bE).trans hh,by rw [A6],A4,A5,yd _⟩
      obtain ⟨M,_⟩:=zr8 aD;refine zwe (i0:=i1) T aW R c7 c8 c9 aR aJ aE y aH aX bD aD (zky sp.off sz) bC (fun is ds g3 w3 a3 aF B U Z => ?_) (zB.size - 0) [] g2 _ a2 rfl .nil (fun i hi => by simp at hi) hZ;simp only [Exit.inBlock,if_true];have D : is.Perm (yq es'.length):=zqy aF List.nodup_range fun i => by rw [B,M]; simp
      have aA : (is.filterMap fun i => (es'[i]?).map fun x => (x.1,zky sp.off sz x.2)).Perm (es.map fun x => (x.1,zky sp.off sz x.2)):=by
       have h1:=D.filterMap fun i => (es'[i]?).map fun x => (x.1,zky sp.off sz x.2);rw [zyf (fun x : Int × V => (x.1,zky sp.off sz x.2)) es'] at h1;exact h1.trans (q.map _)
      have K : ((is.filterMap fun i => (es'[i]?).map fun x => (x.1,zky sp.off sz x.2)).map (·.1)).Nodup:=by
       rw [(aA.map (·.1)).nodup_iff,List.map_map];have : (es.map ((·.1) ∘ fun x : Int × V => (x.1,zky sp.off sz x.2))) = es.map (·.1):=List.map_congr_left fun _ _ => rfl;rw [this];exact (q.map (·.1)).nodup_iff.1 aG
      have aM : (I.map (·.1)).Nodup:=by
       obtain ⟨_,_,_,_,_,⟨bJ,aT,bB,_⟩,_⟩:=R1.ob m _ y;exact (aT.map (·.1)).nodup_iff.1 bB
      have aC : ds.Perm L:=by
       rw [U,aN];exact zv0 aA K aM
      have Y : (r1.st.set m (.mp ds))[m]? = some (.mp ds):=zn y;obtain ⟨E1,E2⟩:=zud Z.rel Y aC;have aQ : (r1.st.set m (.mp ds)).set m (.mp L) = r1.st.set m (.mp L):=(by simp);rw [aQ] at E1 E2;exact k g3 w3 a3 (H1.trans (Z.ext.trans E1)) E2 (Z.fr.tr fun v u h => E1.ze v u h)
    ·cases b
   ·cases c1
  ·cases H
 ·cases H
end
def zo8 (P : Program) : Draws:=⟨fun κ nt gops xs => zpQ P κ nt gops xs || ztO P κ nt gops xs,zlZ P,zmU P⟩
theorem ztZ {P : Program} (hm : P.follows .mixedOrders = true) : DrawOk P (zo8 P) where
 a:=fun Cf S κ nt id gops xs h r r1 h0 hs => by
   simp only [zo8,Bool.or_eq_true] at h;rcases h with h | h
   ·exact zAh hm Cf S κ nt id gops xs h r r1 h0 hs
   ·exact zwD hm Cf S κ nt id gops xs h r r1 h0 hs
 b:=fun Cf S κ nt id gops ps xs h r r1 h0 hs => zBo hm Cf S κ nt id gops ps xs h r r1 h0 hs
 lab:=fun _ _ _ _ h l => zza h l
 c:=fun _ _ _ _ h _ _ he _ _ _ _ d F k => zuW h he d F k
def zkM : Option Fun → Option Entry
 | some f => some (.fn f)
 | none => none
def zuC (rows : List (List (Option Fun))) (n : Nat) : Option Entry:=zkM (((rows[n / 16]?).bind (·[n % 16]?)).getD none)
end Go.A
namespace Go.A
open Go.RowKit (Below)
def zty : List Fz → Option Int
 | [.lit (.int .i64 x)] => some x
 | _ => none
def zeS : List (List Fz) → Option (List Int)
 | [] => some []
 | r :: rs => zeA (zty r) (zeS rs)
def zjb (l : List Int) : List Int:=l.mergeSort fun x y => decide (x ≤ y)
def zZ : List Int → List Int
 | [] => []
 | [x] => [x]
 | x :: y :: r => if x = y then zZ (y :: r) else x :: zZ (y :: r)
def zF (x : Int) : List C:=[.f (.lit (.int .i64 x))]
def zuP (x : Int) : List Fz:=[.lit (.int .i64 x)]
def zpd (σ : zb) (l : List Int) : Option (V × zb) :=
 if l.length ≤ LIM then some (.one (.own σ.length 0 0 l.length),σ ++ [.cells 0 1 ((zjb l).map zF)]) else none
def zqk (σ : zb) : Option C → Option (V × zb)
 | some (.f (.sl xs)) => (zeS xs).bind (zpd σ)
 | _ => none
def zhH (fv : Nat) : List V → zb → Option (V × zb)
 | [.one (.fn g [] [.ptr id ver i o])],σ => if g = fv ∧ o = 0 then zqk σ (σ.cell id ver i 0) else none
 | _,_ => none
def zkA (ver n : Nat) : Ob → Option (List Int)
 | .cells ver' sz es => if ver' = ver ∧ sz = 1 ∧ es.length = n ∧ n ≤ LIM then (zbx es).bind zeS else none
 | _ => none
def zk1 (σ : zb) (id ver : Nat) (l : List Int) : V × zb:=(vsl ((zZ l).map zuP),σ.set id (.cells (ver + 1) 1 []))
def zgb : List V → zb → Option (V × zb)
 | [.one (.f (.sl []))],σ => some (vsl [],σ)
 | [.one (.own id ver 0 n)],σ => ((σ[id]?).bind (zkA ver n)).map (zk1 σ id ver)
 | _,_ => none
theorem zxq {g : G} {w w' : World} {σ : zb} (R : Rel g w σ) (h : Below w.heap.size w w') : Ext g w σ g w' σ ∧ Rel g w' σ:=by
 have H : Ext g w σ g w' σ:={
  os:=h.os
  tape:=h.tape
  output:=h.output
  size:=h.size
  keeps:=fun b o a => ⟨a,by
   unfold World.cell?
   rw [h.block b (R.nb b o a)]⟩
  len:=yd _
  shape:=fun id i sz len d => .inl ⟨d,rfl,fun _ arr t e => ⟨arr,by rw [h.block _ (ya.1 e).1]; exact e,rfl⟩⟩
  map:=fun id es he => ⟨rfl,es,he⟩
  tok:=fun t k n c => ⟨n,c,yd _,fun _ => rfl⟩
  tsz:=fun _ _ d => d
  ow:=fun _ _ => rfl
  new:=fun _ _ c _ _ => c
  frame:=fun b a _ => h.block b a }
 exact ⟨H,fun b o a => Nat.lt_of_lt_of_le (R.nb b o a) h.size,fun id ob f => zbi H rfl (fun _ => rfl) (fun b a _ => ⟨h.block b a,rfl,fun _ c => c⟩) (R.ob id ob f)⟩
end Go.A
namespace Go.A
def zhc : Nat → Option Entry:=fun _ => none
theorem znz {P : Program} (n : Nat) : zen P (zdJ zhc (zG zhc n)):=fun _ _ _ _ _ h => by simp [zdJ,zhc] at h
structure TwoOk (P : Program) (CD : Draws) (κ : List Tmp) (gf : Func) (fn1 fn2 : Fun) (c0 c1 c2 : Code) (i0 i1 : Nat) (r0 : Array Go.Oper) (o1 o2 : Go.Oper) (ga gb : Go.Code) (t3 t4 ty ty' ty'' : Nat) : Prop where
 body : gf.body = some (.seq (.region i0 r0 false) (.seq (.seq (.region i1 #[o1,o2] false) (.cond (.tmp t4) ga .skip)) gb))
 b1 : fn1.body = .seq c0 c1
 b2 : fn2.body = .seq c0 c2
 k0 : zk P CD κ gf.ntmps (.region i0 r0 false) c0 = true
 k1 : zk P CD κ gf.ntmps ga c1 = true
 k2 : zk P CD κ gf.ntmps gb c2 = true
 e1 : o1.guard = none ∧ o1.dst = some t3 ∧ o1.op = .move (.tmp 0)
 e2 : o2.guard = none ∧ o2.dst = some t4 ∧ o2.op = .binOp .eql ty (.tmp t3) (.const (.slice none 0 0)) ty'
 ne : t3 ≠ t4
 f3 : κ.contains t3 = false ∧ t3 < gf.ntmps
 f4 : κ.contains t4 = false ∧ t4 < gf.ntmps
 arg : κ[0]? = some 0
 ty : P.underlying ty = some (.slice ty'')
 nd : zg7 κ = true
 all : κ.all (fun t => decide (t < gf.ntmps)) = true
 same : fn1.np = fn2.np ∧ fn1.nslots = fn2.nslots ∧ fn1.keep = fn2.keep
 len : κ.length = fn2.nslots
 np : fn2.np ≤ fn2.nslots
 np2 : fn2.np ≤ gf.ntmps
 hd : κ.take fn2.np = yq fn2.np
 q1 : zg3 P κ gf.results.toList fn1.results = true
 q2 : zg3 P κ gf.results.toList fn2.results = true
section
variable {P : Program} {CD : Draws} {κ : List Tmp}
theorem zvY (hD : DrawOk P CD) {f : Nat} {gf : Func} {fn1 fn2 : Fun} {c0 c1 c2 : Code} {i0 i1 : Nat} {r0 : Array Go.Oper} {Y Z : Go.Oper} {S gb : Go.Code} {t3 t4 ty I i : Nat} (M : P.funcs[f]? = some gf) (T : TwoOk P CD κ gf fn1 fn2 c0 c1 c2 i0 i1 r0 Y Z S gb t3 t4 ty I i)
  {xs : List (List Fz)} {σ : zb} {v : V} {σ' : zb} {n0 n2 : Nat} {s0 s2 : St} {e2 : Ex} (U : zG zhc n0 c0 (enter fn2 [vsl xs] σ) = some (.normal,s0)) (O : s0.env.getD 0 vun = vsl xs) (X : zG zhc n2 c2 s0 = some (e2,s2)) (l2 : leave fn2.raw fn2.results (e2,s2) = some (v,σ'))
  (h1 : xs = [] → ∃ n1 s1,zG zhc n1 c1 s0 = some (.ret,s1) ∧ leave fn1.raw fn1.results (.ret,s1) = some (v,σ')) (D : fn2.np = 1) {g : G} {w : World} {us : List Value} (R0 : Rel g w σ) (hv : zv g w σ [vsl xs] us) :
  Calls P f us.toArray w fun e w' => ∃ u g',e = .returned u ∧ ze g' w' σ' v u ∧ Rel g' w' σ' ∧ Ext g w σ g' w' σ':=by
 have hA:=zjc (gf:=gf) (fn:=fn2) R0 hv T.nd T.all T.len T.np T.np2 T.hd (by rw [D]; rfl);have a:=fun n => zlX (P:=P) (CD:=CD) (T:=zhc) (g0:=g.clean σ.length) (w0:=w) (σ0:=σ) (κ:=κ) (nt:=gf.ntmps) hD (zdO g σ.length) n fun m _ => znz m;have p:=zb8 zhc n0 _ _ _ _ U
 have k : ∀ (fn : Fun) (e : Ex) (s : St),zg3 P κ gf.results.toList fn.results = true → leave fn.raw fn.results (e,s) = some (v,σ') → s.lim = (enter fn2 [vsl xs] σ).lim → ∀ x A w',zAc (g.clean σ.length) w σ κ gf.ntmps e s x A w' →
   bodyPost P gf (fun e w' => ∃ u g',e = .returned u ∧ ze g' w' σ' v u ∧ Rel g' w' σ' ∧ Ext g w σ g' w' σ') x A w' ∧ x = ziL e:=fun fn e s K d z x A w' l => by
  obtain ⟨rfl,g',A'⟩:=l;obtain ⟨q1,q2,u,q3,J,q4,q5,W⟩:=zjh (fn:=fn) (gf:=gf) (zdO g σ.length) (by rw [z]; exact Nat.le_add_right _ _) K d A'
  have j : A.defers = [] ∧ ∃ v1,(results gf A.tmps).run P w' = .ok v1 w' ∧ ∃ u g',(Ending.returned v1) = .returned u ∧ ze g' w' σ' v u ∧ Rel g' w' σ' ∧ Ext g w σ g' w' σ' :=
   ⟨q2,u,q3,u,G.under g w J,rfl,zdA (g:=J) (g':=G.under g w J) rfl rfl rfl _ _ q4,zmi W q5,zne W⟩
  rcases q1 with rfl | rfl
  ·exact ⟨j,rfl⟩
  ·exact ⟨j,rfl⟩
 refine calls_of_wp M T.body (wp_seq (wp_mono ((a n0).1 _ c0 _ .normal s0 T.k0 U _ _ _ (yd _) hA) fun x a1 B l => ?_));obtain ⟨rfl,g1,t⟩:=l
 show Exit.then _ _ .normal a1 B
 simp only [Exit.then];have q:=t.fr.size;have hu:=t.fr.env 0 0 T.arg;simp only [O] at hu;simp only [vsl,ze,zq,rep] at hu;obtain ⟨ad,c,sz,hu,_,_,y⟩:=hu;refine wp_seq (wp_seq (zcd ?_));refine zcj (o:=Y) rfl T.e1.1 T.e1.2.1 T.f3 (zhv (.inr T.e1.2.2) hu) fun a2 C => ?_;refine zcj (o:=Z) (u:=.bool ad.isNone) (w':=B) rfl T.e2.1 T.e2.2.1 T.f4 ?_ fun a3 N => ?_
 ·unfold execOp
  simp only [T.e2.2.2,zdG,C.val q,Act.eval];simp [eqGuard,Lib.run_eql_slice_nil B ty i ad xs.length c 0 0 T.ty]
 show Exit.then _ _ .normal a3 B
 simp only [Exit.then];have A3 : At' (g.clean σ.length) w σ κ gf.ntmps g1 B s0 a3:=⟨t.ext,t.rel,N.fr (C.fr t.fr)⟩;have hle : σ.length ≤ s0.base:=by rw [p.1]; exact yd _
 cases ad with
 | none =>
   have Q : xs = []:=by
    rcases y with h | ⟨b,o,h,_⟩
    ·exact h
    ·cases h
   obtain ⟨n1,s1,r,E⟩:=h1 Q;have L:=zb8 zhc n1 _ _ _ _ r;refine wp_cond_true (N.val (C.size q)) (wp_mono ((a n1).1 S c1 s0 .ret s1 T.k1 r _ _ _ hle A3) fun x a4 H l => ?_);obtain ⟨k1,k2⟩:=k fn1 .ret s1 T.q1 E (by rw [L.2,p.2]) x a4 H l;subst k2;simp only [ziL,Exit.then];exact k1
 | some ad =>
   have R:=zb8 zhc n2 _ _ _ _ X;refine wp_cond_false (N.val (C.size q)) (wp_skip ?_);simp only [Exit.then];exact wp_mono ((a n2).1 gb c2 s0 e2 s2 T.k2 X _ _ _ hle A3) fun x a4 H l => (k fn2 e2 s2 T.q2 l2 (by rw [R.2,p.2]) x a4 H l).1
def zmo (t3 t4 : Nat) (o1 o2 : Go.Oper) : Bool:=o1.guard.isNone && o1.dst == some t3 && o2.guard.isNone && o2.dst == some t4 &&
 (match o1.op with
  | .move (.tmp 0) => true
  | _ => false) && (match o2.op with
  | .binOp .eql _ (.tmp t) (.const (.slice none 0 0)) _ => t == t3
  | _ => false)
def zyp (o : Go.Oper) : Nat × Nat:=match o.op with
 | .binOp _ t _ _ t' => (t,t')
 | _ => (0,0)
theorem ziQ {t3 t4 : Nat} {b a : Go.Oper} (h : zmo t3 t4 b a = true) : (b.guard = none ∧ b.dst = some t3 ∧ b.op = .move (.tmp 0)) ∧ (a.guard = none ∧ a.dst = some t4 ∧ a.op = .binOp .eql (zyp a).1 (.tmp t3) (.const (.slice none 0 0)) (zyp a).2):=by
 unfold zmo at h;simp only [yc,Option.isNone_iff_eq_none,beq_iff_eq] at h;obtain ⟨⟨⟨⟨⟨i,e⟩,g⟩,f⟩,d⟩,c⟩:=h;refine ⟨⟨i,e,?_⟩,g,f,?_⟩
 ·split at d
  ·assumption
  ·cases d
 ·unfold zyp
  split at c
  ·rename_i heq
   rw [heq];simp only [beq_iff_eq] at c;rw [c]
  ·cases c
def zmv (P : Program) (t : Nat) : Bool:=match P.underlying t with
 | some (.slice _) => true
 | _ => false
def zlA (P : Program) (CD : Draws) (κ : List Tmp) (gf : Func) (fn1 fn2 : Fun) : Bool:=match gf.body,fn1.body,fn2.body with
 | some (.seq (.region i0 r0 false) (.seq (.seq (.region _ ⟨[o1,o2]⟩ false) (.cond (.tmp t4) ga .skip)) gb)),.seq c0 c1,.seq c0' c2 =>
   zk P CD κ gf.ntmps (.region i0 r0 false) c0 && zk P CD κ gf.ntmps (.region i0 r0 false) c0' && zk P CD κ gf.ntmps ga c1 && zk P CD κ gf.ntmps gb c2 && (match o1.dst with
    | some t3 => zmo t3 t4 o1 o2 && t3 != t4 && !κ.contains t3 && decide (t3 < gf.ntmps)
    | none => false) && !κ.contains t4 && decide (t4 < gf.ntmps) && κ[0]? == some 0 && zmv P (zyp o2).1 && zg7 κ && κ.all (fun t => decide (t < gf.ntmps)) && κ.length == fn2.nslots && decide (fn2.np ≤ fn2.nslots) && decide (fn2.np ≤ gf.ntmps) && (κ.take fn2.np == yq fn2.np) && zg3 P κ gf.results.toList fn1.results && zg3 P κ gf.results.toList fn2.results
 | _,_,_ => false
def zkv : Code:=.reg [⟨.slot 1,.mv (.c (.one (.f (.sl [])))),none⟩]
def znE : Code:=.seq (.reg [⟨.slot 1,.mv (.c (.one (.f (.sl [])))),none⟩]) (.ret [false,true])
def zmR (sz : Nat) : Code:=.seq (.reg [⟨.loc,.bsl .tk sz [] [],none⟩,⟨.loc,.mv (.s 0),none⟩,⟨.loc,.app sz (.l 1) (.l 0),none⟩,⟨.slot 1,.mv (.l 0),none⟩]) (.ret [false,true])
def zeC : Fun:=⟨1,2,0,false,[(1,none)],.seq zkv znE⟩
def zdo (sz : Nat) : Fun:=⟨1,2,0,false,[(1,none)],.seq zkv (zmR sz)⟩
def zl2 (sz : Nat) : List V → zb → Option (V × zb)
 | [.one (.f (.sl xs))],[] => if zpv sz xs = true ∧ xs.length ≤ LIM then some (.one (.f (.sl xs)),[]) else none
 | _,_ => none
theorem zv1 (hD : DrawOk P CD) {f : Nat} {gf : Func} {sz : Nat} (hgf : P.funcs[f]? = some gf) (hname : (gf.name == "runtime.NumGoroutine") = false) (hc : zlA P CD [0, 2] gf zeC (zdo sz) = true) (args : List V) (σ : zb) (v : V) (σ' : zb) (h : zl2 sz args σ = some (v, σ')) :
  Enters P f ∧ ∀ g w us,Rel g w σ → zv g w σ args us → Calls P f us.toArray w fun e w' => ∃ u g',e = .returned u ∧ ze g' w' σ' v u ∧ Rel g' w' σ' ∧ Ext g w σ g' w' σ':=by
 unfold zl2 at h
 split at h
 ·rename_i xs
  split at h
  ·rename_i hok
   injection h with h
   simp only [Prod.mk.injEq] at h
   obtain ⟨rfl,rfl⟩:=h
   unfold zlA at hc
   split at hc
   ·rename_i i0 r0 i1 o1 o2 t4 ga gb c0 c1 c0' c2 hb hb1 hb2
    simp only [yc,beq_iff_eq,bne_iff_ne,ne_eq,ye,decide_eq_true_eq] at hc
    obtain ⟨⟨⟨⟨⟨⟨⟨⟨⟨⟨⟨⟨⟨⟨⟨⟨h1,h1'⟩,h2⟩,h3⟩,h4⟩,h5⟩,h6⟩,h7⟩,h8⟩,h9⟩,h10⟩,h11⟩,h12⟩,h13⟩,h14⟩,h15⟩,h16⟩:=hc
    split at h4
    ·rename_i t3 ht3
     simp only [yc,bne_iff_ne,ne_eq,ye,decide_eq_true_eq] at h4
     obtain ⟨⟨⟨h4,hne⟩,hk3⟩,hl3⟩:=h4
     obtain ⟨k1,k2⟩:=ziQ h4
     injection hb1 with e1 e2
     injection hb2 with e3 e4
     subst e1 e2 e3 e4
     refine ⟨⟨gf,_,hgf,hname,hb⟩,fun g w us R0 hv => ?_⟩
     obtain ⟨te,hte⟩ : ∃ te,P.underlying (zyp o2).1 = some (.slice te):=by
      unfold zmv at h8
      split at h8
      ·rename_i te hte; exact ⟨te,hte⟩
      ·cases h8
     have T : TwoOk P CD [0,2] gf zeC (zdo sz) zkv znE (zmR sz) i0 i1 r0 o1 o2 ga gb t3 t4 (zyp o2).1 (zyp o2).2 te :=
      ⟨hb,rfl,rfl,h1,h2,h3,k1,k2,hne,⟨hk3,hl3⟩,⟨h5,h6⟩,h7,hte,h9,h10,⟨rfl,rfl,rfl⟩,h11,h12,h13,h14,h15,h16⟩
     refine zvY (n0:=1) (n2:=2) (e2:=.ret) (s0:=⟨[vsl xs,vsl []],[],0,0⟩) (s2:=⟨[vun,.one (.ap 0 0 xs)],[.tok sz [xs.length]],0,0⟩) hD hgf T ?_ rfl ?_ ?_ (fun hxs => ⟨2,⟨[vun,vsl []],[],0,0⟩,?_,?_⟩) rfl R0 hv
     ·simp [zG,zkv,steps,step,zaF,R.get,R.put,zv7,enter,zdo,vsl,vun]
     ·simp [zG,zmR,steps,step,zaF,R.get,R.put,zv7,vsl,vun,zlH,zt4,zbx,zw8,R.alloc,elems,hok.1,zAy,zlG,Ob.front,Ob.setFront,R.setOb,hok.2,zqm,clr,St.mkSt]
     ·simp [leave,zdo,outs,zrF,zxw,zz8,zeA,vsl,zkd,zkk,V.lts,V.lt,C.lt,Obs.lt,zAd,vun]
     ·simp [zG,znE,steps,step,zaF,R.get,R.put,zv7,vsl,vun,zqm,clr,St.mkSt]
     ·subst hxs
      simp [leave,zeC,outs,zrF,zxw,zz8,zeA,vsl,zkd,zkk,V.lts,V.lt,C.lt,Obs.lt,zAd,vun]
    ·cases h4
   ·cases hc
  ·cases h
 ·cases h
end
end Go.A

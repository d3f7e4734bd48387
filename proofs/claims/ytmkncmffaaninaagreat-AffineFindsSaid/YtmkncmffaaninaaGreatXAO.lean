/- A part of the proof of AffineFinds. Conditions: none. -/
import Derived.Test.YtmkncmffaaninaaGreatXAN
import Derived.Below
import Derived.WalkSpells
set_option linter.all false
open Array renaming getElem?_eq_some_iff → ya,getElem?_setIfInBounds → yf,getElem?_toList → yi,toList_filter → yj
open Option renaming bind_eq_some_iff → yb,map_some → yr
open Bool renaming and_eq_true → yc,not_eq_true' → ye
open Nat renaming le_refl → yd,zero_add → ys
open List renaming mem_cons → yg,filterMap_append → yh,mem_filterMap → yk,not_mem_nil → yl,length_cons → ym,nodup_cons → yn,mem_filter → yo,mem_append → yp,range → yq,range' → yt
namespace Go.A
open Go.ChangeMaps (setBlock)
section
variable {P : Program} {κ : List Tmp} {nt : Nat}
def Nums.bodyB (n : Nums) : List (Option Tmp × Go.Op):=[(some n.t21,.next (.tmp n.tit) false),(some n.t22,.extract (.tmp n.t21) 0)]
theorem zD1 {g g0 : G} {w w0 : World} {σ σ0 : zd} (R : Rel g w σ) (b : Ext g0 w0 σ0 g w σ) {a : World} (h : a = w ∨ a = w.drew) : Ext g0 w0 σ0 g a σ ∧ Rel g a σ ∧ (∀ v u,zh g w σ v u → zh g a σ v u) ∧ a.heap = w.heap:=by
 rcases h with rfl | rfl
 ·exact ⟨b,R,fun _ _ h => h,rfl⟩
 ·obtain ⟨c,d⟩:=drawn R 1
  exact ⟨b.trans c,d,fun v u h => c.zh v u h,rfl⟩
theorem zw8 {g : G} {w : World} {σ : zd} : ∀ {es : List (Int × V)} {zX : List MapEntry},zp8 g w σ es zX → es.length = zX.length ∧ ∀ (i : Nat) (x : Int × V),es[i]? = some x → ∃ e : MapEntry,zX[i]? = some e ∧ e.key = .int .i64 x.1 ∧ zh g w σ x.2 e.val
 | [],zX,h => by
   have : zX = []:=h;subst this;exact ⟨rfl,fun i x a => by simp at a⟩
 | y :: es,_,h => by
   obtain ⟨e,rest,rfl,b,j,d⟩:=h;obtain ⟨c,f⟩:=zw8 d;refine ⟨by simp [c],fun i x a => ?_⟩
   cases i with
   | zero => simp at a; subst a; exact ⟨e,by simp,b,j⟩
   | succ i => simpa using f i x (by simpa using a)
theorem nodup_lt_length : ∀ (n : Nat) (l : List Nat),l.Nodup → (∀ x ∈ l,x < n) → l.length ≤ n
 | 0,l,_,h => by
   cases l with
   | nil => simp
   | cons x l => have:=h x (by simp); omega
 | n + 1,l,hn,h => by
   by_cases hm : n ∈ l
   ·have c:=List.length_erase_of_mem hm
    have d:=nodup_lt_length n (l.erase n) (hn.erase n) fun x a => by
     have b:=(hn.mem_erase_iff).1 a;have:=h x b.2;have:=b.1;omega
    omega
   ·have:=nodup_lt_length n l hn fun x a => by
     have:=h x a;have : x ≠ n:=fun e => hm (e ▸ a);omega
    omega
theorem zAT {n : Nums} {off sz row : Nat} (T : TyOk P n off sz row) (aL : n.fresh.Nodup) (hk : ∀ t ∈ n.fresh,κ.contains t = false ∧ t < nt) {A R N : Array Go.Oper} (hB : zhi A.toList n.bodyB = true) (hC : zhi R.toList n.bodyC = true) (hD : zhi N.toList n.bodyD = true) {ib i0 i2 ic aY dst : Nat} (aN : κ[dst]? = some n.t5)
  {g0 : G} {w0 : World} {σ : zd} {env : List V} {b l id d bm clock r : Nat} {zX : Array MapEntry} {q : List (Int × V)} {Q : Exit → Act → World → Prop}
  (aU : id ≠ d) {es : List (Int × V)} (bB : σ[id]? = some (.mp es)) (aK : σ[d]? = some (.mp q)) (aH : env.getD dst vun = .one (.map d)) (E : (zX.toList.map (·.born)).Nodup) (I : ∀ e ∈ zX.toList,e.born < clock)
  {es' : List (Int × V)} (hm : zp8 g0 w0 σ es' zX.toList) (f : V → V) (hf : ∀ x ∈ es',x.2.cells.length = row ∧ C.kns x.2.cells = true ∧ zxz off (some sz) x.2 = some (f x.2))
  (hQ : ∀ (is : List Nat) (ds : List (Int × V)) (g : G) (w : World) (a : Act),is.Nodup → (∀ i,i ∈ is ↔ i < zX.size) → ds = zsN (is.filterMap fun i => (es'[i]?).map fun x => (x.1,f x.2)) q → Cp κ nt g0 w0 σ σ env b l id d bm clock zX n.tit r (is.filterMap fun i => (zX[i]?).map (·.born)).toArray ds g w a → Q (.exit i0) a w) :
  ∀ (m : Nat) (is : List Nat) (g : G) (w : World) (a : Act),zX.size - is.length = m → is.Nodup → (∀ i ∈ is,i < zX.size) →
  Cp κ nt g0 w0 σ σ env b l id d bm clock zX n.tit r (is.filterMap fun i => (zX[i]?).map (·.born)).toArray (zsN (is.filterMap fun i => (es'[i]?).map fun x => (x.1,f x.2)) q) g w a →
  RL P (.seq (.region ib A false) (.seq (.cond (.tmp n.t22) .skip (.exit i0)) (.block i2 (.seq (.region ic R false) (.region aY N false))))) Q a w:=by
 obtain ⟨lB⟩:=A;simp only [Nums.bodyB] at hB;obtain ⟨o0,l1,rfl,⟨p0,q0,r0⟩,hB⟩:=zaN hB;obtain ⟨o1,l2,rfl,⟨p1,q1,r1⟩,hB⟩:=zaN hB;have aX:=zly hB;subst aX;have W:=aL;have aE:=hk;simp only [Nums.fresh,yn,yg,yl,or_false,not_or,List.nodup_nil,and_true,not_false_eq_true] at W;obtain ⟨⟨e1,e2,_⟩,⟨f1,_⟩,_⟩:=W;simp only [Nums.fresh,yg,yl,or_false,forall_eq_or_imp,forall_eq] at aE;obtain ⟨bC,S,O,_⟩:=aE;obtain ⟨hlen,aP⟩:=zw8 hm;intro m
 induction m using Nat.strongRecOn with
 | _ m ih =>
   intro is g w a bD Y s Z;have H:=Z.fr.size;obtain ⟨c0,aF,hr⟩:=Z.hr
   have aW : bm ≠ r:=fun e => by
    have:=Z.hb;rw [e,hr] at this;cases this
   have aB : ∀ e ∈ (leftOf zX (is.filterMap fun i => (zX[i]?).map (·.born)).toArray).toList,∃ i,zX[i]? = some e ∧ i ∉ is:=fun e he => by
    unfold leftOf at he;simp only [yj,yo,ye] at he;obtain ⟨aT,aM⟩:=he;obtain ⟨i,M⟩:=List.mem_iff_getElem?.1 aT;refine ⟨i,by simpa using M,fun aQ => ?_⟩
    have : e.born ∈ is.filterMap fun i => (zX[i]?).map (·.born):=yk.2 ⟨i,aQ,by
     have : zX[i]? = some e:=by simpa using M
     rw [this]; rfl⟩
    simp at aM;simp at this;obtain ⟨i',K,h2,h3⟩:=this;exact aM i' K h2 h3.1 h3.2
   have aJ : (leftOf zX (is.filterMap fun i => (zX[i]?).map (·.born)).toArray).size = 0 → ∀ i,i ∈ is ↔ i < zX.size:=fun h0 i => by
    refine ⟨s i,fun M => ?_⟩;refine Classical.byContradiction fun aC => ?_
    have X : zX[i] ∈ (leftOf zX (is.filterMap fun i => (zX[i]?).map (·.born)).toArray).toList:=by
     unfold leftOf;simp only [yj,yo,ye];refine ⟨by simp,?_⟩;rw [Bool.eq_false_iff];intro hc;have aR : zX[i].born ∈ is.filterMap fun i => (zX[i]?).map (·.born):=by simpa using hc
     obtain ⟨i',K,h2⟩:=yk.1 aR;have aG:=s i' K;rw [Array.getElem?_eq_getElem aG] at h2;simp only [yr,Option.some.injEq] at h2;have : i' = i:=zkT E (i:=i') (j:=i) (x:=zX[i].born) (by simp [aG,h2]) (by simp [M]);subst this;exact aC K
    have : (leftOf zX (is.filterMap fun i => (zX[i]?).map (·.born)).toArray).toList = []:=by
     rw [← List.length_eq_zero_iff];simpa using h0
    rw [this] at X;simp at X
   refine zvR (wp_seq (zdV ?_));rcases run_next_at (P:=P) w o0.type r bm clock c0 _ zX clock hr Z.hb I aF with ⟨h0,B⟩ | ⟨e,aS,w1,aV,B⟩
   ·
    refine zef (o:=o0) rfl p0 q0 S (zqD r0 Z.it B) fun a0 J => ?_;refine zef (o:=o1) rfl p1 q1 O (zgI r1 (J.val H) rfl) fun a1 P1 => ?_
    show Exit.then _ _ .normal a1 w
    simp only [Exit.then];refine wp_seq (wp_cond_false (P1.val (J.size H)) (wp_exit ?_));simp only [Exit.then];refine hQ is _ g w a1 Y (aJ h0) rfl ⟨Z.ext,Z.rel,P1.fr (J.fr Z.fr),(P1.other _ e2).trans ((J.other _ e1).trans Z.it),⟨c0,aF,hr⟩,Z.hb,Z.rho,Z.ow,Z.no,Z.new⟩
   ·
    obtain ⟨i,M,aC⟩:=aB e aS;have D : i < zX.size:=(ya.1 M).1;obtain ⟨D1,D2,D3,D4⟩:=zD1 Z.rel Z.ext aV;obtain ⟨B1,B2,B3⟩:=zJv D2 D1 Z.new Z.ow Z.no (.mapIter (some bm) clock ((is.filterMap fun i => (zX[i]?).map (·.born)).toArray.push e.born) clock);refine zef (o:=o0) rfl p0 q0 S (zqD r0 Z.it B) fun a0 J => ?_;refine zef (o:=o1) rfl p1 q1 O (zgI r1 (J.val H) rfl) fun a1 P1 => ?_
    show Exit.then _ _ .normal a1 _
    simp only [Exit.then];refine wp_seq (wp_cond_true (P1.val (J.size H)) (wp_skip ?_));simp only [Exit.then];have aA : i < es'.length:=(by rw [hlen]; simpa using D);obtain ⟨L,K,h2,h3⟩:=aP i es'[i] (List.getElem?_eq_getElem aA)
    have bA : L = e:=by
     have : zX.toList[i]? = some e:=(by simpa using M);rw [this] at K;injection K with K;exact K.symm
    subst bA;obtain ⟨t1,t2,t3⟩:=hf es'[i] (List.getElem_mem aA)
    have c : ((is ++ [i]).filterMap fun i => (zX[i]?).map (·.born)).toArray = (is.filterMap fun i => (zX[i]?).map (·.born)).toArray.push L.born:=by
     rw [yh];simp [M]
    have aI : r < w.heap.size:=(ya.1 hr).1
    have U : (setBlock w1 r (.mapIter (some bm) clock ((is.filterMap fun i => (zX[i]?).map (·.born)).toArray.push L.born) clock)).heap[r]? = some (.mapIter (some bm) clock ((is.filterMap fun i => (zX[i]?).map (·.born)).toArray.push L.born) clock):=by
     show (w1.heap.setIfInBounds r _)[r]? = _
     rw [D4,yf];simp [aI]
    have hZ : Cp κ nt g0 w0 σ σ env b l id d bm clock zX n.tit r ((is ++ [i]).filterMap fun i => (zX[i]?).map (·.born)).toArray (zsN (is.filterMap fun i => (es'[i]?).map fun x => (x.1,f x.2)) q) g (setBlock w1 r (.mapIter (some bm) clock ((is.filterMap fun i => (zX[i]?).map (·.born)).toArray.push L.born) clock)) a1 :=
     ⟨B1,B2,P1.fr (J.fr (Z.fr.tr fun v u h => B3 v u (D3 v u h))),(P1.other _ e2).trans ((J.other _ e1).trans Z.it),⟨clock,yd _,by rw [c]; exact U⟩,by
      show (w1.heap.setIfInBounds r _)[bm]? = _
      rw [D4,yf,if_neg (Ne.symm aW)]
      exact Z.hb,Z.rho,Z.ow,Z.no,Z.new⟩
    have aZ : zh g (setBlock w1 r (.mapIter (some bm) clock ((is.filterMap fun i => (zX[i]?).map (·.born)).toArray.push L.born) clock)) (σ.set d (.mp (zsN (is.filterMap fun i => (es'[i]?).map fun x => (x.1,f x.2)) q))) es'[i].2 L.val:=B1.zh _ _ h3
    refine zA1 (v:=es'[i].2) (v':=f es'[i].2) (k:=es'[i].1) (e:=L) T aL hk hC hD aN aU bB aK aH hZ (by rw [U,c]; simp) (by rw [c]; simp) (by
     have : zX.toList[i]? = some L:=by simpa using M
     exact List.mem_of_getElem? this) E h2 aZ t1 t2 t3 fun g' w' a' Z' => ?_
    simp only [Exit.then]
    have aD : zgq es'[i].1 (f es'[i].2) (zsN (is.filterMap fun i => (es'[i]?).map fun x => (x.1,f x.2)) q) = zsN ((is ++ [i]).filterMap fun i => (es'[i]?).map fun x => (x.1,f x.2)) q:=by
     rw [yh,zwY];simp [aA,zsN]
    rw [aD] at Z'
    have z : (is ++ [i]).Nodup:=List.nodup_append.2 ⟨Y,by simp,fun x p y hy => by
     simp at hy;subst hy
     exact fun e => aC (e ▸ p)⟩
    have aO : (is ++ [i]).length ≤ zX.size:=by
     refine nodup_lt_length _ _ z fun x p => ?_;rcases yp.1 p with p | p
     ·exact s x p
     ·simp at p; subst p; exact D
    refine ih (zX.size - (is ++ [i]).length) (by simp at aO ⊢; omega) (is ++ [i]) g' w' a' rfl z (fun x p => ?_) Z';rcases yp.1 p with p | p
    ·exact s x p
    ·simp at p; subst p; exact D
end
end Go.A
namespace Go.A
section
variable {P : Program} {κ : List Tmp} {nt : Nat}
def zB1 : List Go.Oper → List Oper → List (Option Tmp) → List (Option Tmp)
 | o :: os,x :: xs,loc => zB1 os xs (zbp o.dst x.dst :: loc)
 | _,_,loc => loc
theorem zCI {c : zaq} (S : zg3 P c) {gops : Array Go.Oper} {Q : Exit → Act → World → Prop} {rest : List Nat} : ∀ (os : List Go.Oper) (xs : List Oper) (i : Nat) {loc : List (Option Tmp)} {g : G} {w : World} {r : R} {a : Act} {r1 : R},(∀ j,j < os.length → os[j]? = gops[i + j]?) → zkv P κ nt gops loc os xs = true → steps c xs r = some r1 → Rel g w r.st → Fr κ loc nt g w r a →
  (∀ g' w' a',Ext g w r.st g' w' r1.st → Rel g' w' r1.st → Fr κ (zB1 os xs loc) nt g' w' r1 a' → wpOps P gops Q rest a' w') → wpOps P gops Q (yt i os.length ++ rest) a w
 | [],[],i,loc,g,w,r,a,r1,_,_,h,R0,F,k => by
   simp only [steps,Option.some.injEq] at h;subst h;exact k g w a (Ext.refl _ _ _) R0 F
 | o :: os,x :: xs,i,loc,g,w,r,a,r1,hi,hc,h,R0,F,k => by
   simp only [zkv,yc] at hc;obtain ⟨⟨⟨y,f⟩,l⟩,u⟩:=hc;simp only [steps,yb] at h;obtain ⟨z,t,p⟩:=h;have b : gops[i]? = some o:=(by simpa using (hi 0 (by simp)).symm);rw [ym,List.range'_succ]
   have key:=zdX (Q:=Q) (gops:=gops) (next:=wpOps P gops Q (yt (i + 1) os.length ++ rest)) S R0 F y f l t (fun g' w' a' H v _ m =>
    zCI S os xs (i + 1) (fun j A => by
     have:=hi (j + 1) (by simp; omega);rw [show i + (j + 1) = i + 1 + j from by omega] at this;rw [← this]
     simp) u p v m fun q d a2 n e s => k q d a2 (H.trans n) e s) (fun _ h => h)
   simp only [List.cons_append,wpOps,b];split
   ·rename_i hw
    rw [if_pos hw] at key;exact .inl key
   ·rename_i hw
    rw [if_neg hw] at key;exact key
 | [],_ :: _,_,_,_,_,_,_,_,_,hc,_,_,_,_ => by simp [zkv] at hc
 | _ :: _,[],_,_,_,_,_,_,_,_,hc,_,_,_,_ => by simp [zkv] at hc
def zBd (P : Program) (n : Nums) (off sz row : Nat) : Bool :=
 (match zeroOf P n.ty with
  | some zs => zs.length == row
  | none => false) && zjg P n.ty == some row && decide (0 < row) &&
 (match P.underlying n.ty with
  | some (.struct fs) => (match fs[n.fi]? with
    | some f => (match zjg P f.type with
      | some k => decide (k ≠ 0)
      | none => false) && f.offset == off
    | none => false)
  | _ => false) && zlM P n.lt == some true && zjg P n.lt == some sz &&
 (match P.underlying n.dt with
  | some (.map key _) => (match P.underlying key with
    | some (.int .i64) => true
    | _ => false)
  | _ => false) && (match P.underlying n.mt with
  | some (.map _ _) => true
  | _ => false)
def zs4 (P : Program) (κ : List Tmp) (nt : Nat) (sp : Spec) (n : Nums) : Go.Code → Bool
 | .seq (.region _ opsA false) (.block i0 (.loop (.seq (.region _ opsB false) (.seq (.cond (.tmp tc) .skip (.exit i1)) (.block _ (.seq (.region _ opsC false) (.region _ opsD false))))))) =>
   (match sp.sz with
    | some sz => zBd P n sp.off sz sp.row
    | none => false) && tc == n.t22 && i1 == i0 && zkv P κ nt opsA [] (opsA.toList.take sp.pre.length) sp.pre && zhi (opsA.toList.drop sp.pre.length) [(some n.tit,.range n.mt (.tmp n.tm))] &&
   okX κ (zB1 (opsA.toList.take sp.pre.length) sp.pre []) (.tmp n.tm) sp.m && zhi opsB.toList n.bodyB && zhi opsC.toList n.bodyC && zhi opsD.toList n.bodyD && zj9 n.fresh && n.fresh.all (fun t => !κ.contains t && decide (t < nt)) && κ[sp.dst]? == some n.t5
 | _ => false
def zqK (P : Program) (κ : List Tmp) (nt : Nat) (c : Go.Code) (sp : Spec) : Bool:=match zHH sp.ns with
 | some n => zs4 P κ nt sp n c
 | none => false
theorem zBj {n : Nums} {off sz row : Nat} (h : zBd P n off sz row = true) : TyOk P n off sz row ∧ ∃ k e,P.underlying n.mt = some (.map k e):=by
 unfold zBd at h;simp only [yc,beq_iff_eq,decide_eq_true_eq] at h;obtain ⟨⟨⟨⟨⟨⟨⟨g,s⟩,m⟩,a⟩,r⟩,p⟩,b⟩,i⟩:=h;refine ⟨⟨?_,s,m,?_,r,p,?_⟩,?_⟩
 ·split at g
  ·rename_i q l
   exact ⟨q,l,by simpa using g⟩
  ·cases g
 ·split at a
  ·rename_i fs d
   split at a
   ·rename_i f o
    simp only [yc,beq_iff_eq] at a;obtain ⟨a,j⟩:=a;split at a
    ·rename_i k c
     exact ⟨fs,f,k,d,o,c,by simpa using a,j⟩
    ·cases a
   ·cases a
  ·cases a
 ·split at b
  ·rename_i key e hd
   split at b
   ·rename_i c
    exact ⟨key,e,hd,c⟩
   ·cases b
  ·cases b
 ·split at i
  ·rename_i k e hm
   exact ⟨k,e,hm⟩
  ·cases i
def zoc (off sz : Nat) (v : V) : V:=(zxz off (some sz) v).getD vun
theorem znj {off sz row : Nat} : ∀ {es ds a : List (Int × V)},ziv off (some sz) row es ds = some a → (∀ x ∈ es,x.2.cells.length = row ∧ C.kns x.2.cells = true ∧ zxz off (some sz) x.2 = some (zoc off sz x.2)) ∧ a = zsN (es.map fun x => (x.1,zoc off sz x.2)) ds
 | [],ds,a,h => by
   simp only [ziv,Option.some.injEq] at h;exact ⟨fun x b => by simp at b,h.symm⟩
 | e :: es,ds,a,h => by
   simp only [ziv] at h;split at h
   ·rename_i c
    rw [yb] at h;obtain ⟨v,f,j⟩:=h;obtain ⟨g,i⟩:=znj j;have d : zoc off sz e.2 = v:=(by unfold zoc; rw [f]; rfl);refine ⟨fun x b => ?_,?_⟩
    ·rcases yg.1 b with rfl | b
     ·exact ⟨c.1,c.2,by rw [d]; exact f⟩
     ·exact g x b
    ·rw [i]
     simp [zsN,d]
   ·cases h
theorem zuW {l a : List Nat} (c : l.Nodup) (f : a.Nodup) (h : ∀ x,x ∈ l ↔ x ∈ a) : l.Perm a:=by
 induction l generalizing a with
 | nil =>
   cases a with
   | nil => exact .nil
   | cons y a => have:=(h y).2 (by simp); simp at this
 | cons x l ih =>
   have g : x ∈ a:=(h x).1 (by simp);rw [yn] at c;refine (List.Perm.cons x (ih c.2 (f.erase x) fun y => ?_)).trans (List.perm_cons_erase g).symm;rw [f.mem_erase_iff];constructor
   ·intro b
    exact ⟨fun e => c.1 (e ▸ b),(h y).1 (List.mem_cons_of_mem _ b)⟩
   ·rintro ⟨d,b⟩
    rcases yg.1 ((h y).2 b) with e | e
    ·exact absurd e d
    ·exact e
theorem zBn {α β : Type} (f : α → β) : ∀ (l : List α),(yq l.length).filterMap (fun i => (l[i]?).map f) = l.map f:=by
 intro l
 induction l with
 | nil => rfl
 | cons x l ih =>
   rw [ym,List.range_succ_eq_map];simp only [List.filterMap_cons,List.getElem?_cons_zero,yr,List.filterMap_map,List.map_cons]
   congr 1
theorem zyv : zg3 P zt8:=fun _ _ _ _ _ h => by cases h
theorem zDL {sp : Spec} {c : Go.Code} (h : zqK P κ nt c sp = true) (l : Nat) : Go.findLabel c l = none:=by
 unfold zqK at h;split at h
 ·unfold zs4 at h
  split at h
  ·simp [Go.findLabel]
  ·cases h
 ·cases h
theorem zyG {c : Go.Code} {sp : Spec} (E : zqK P κ nt c sp = true) {s s1 : St} (he : zu7 sp s = some s1) {g : G} {w : World} {a : Act} {Q : Exit → Act → World → Prop} (R0 : Rel g w s.st) (F : Fr κ [] nt g w ⟨[],s.env,s.st,s.base,s.lim⟩ a)
  (k : ∀ g' w' a',Ext g w s.st g' w' s1.st → Rel g' w' s1.st → Fr κ [] nt g' w' ⟨[],s1.env,s1.st,s1.base,s1.lim⟩ a' → Q .normal a' w') : c.wp P Q a w:=by
 unfold zqK at E;split at E
 ·rename_i n hn
  unfold zs4 at E;split at E
  ·rename_i ia f i0 ib bG tc i1 i2 ic bI bJ bH
   simp only [yc,beq_iff_eq] at E;obtain ⟨⟨⟨⟨⟨⟨⟨⟨⟨⟨⟨c1,c2⟩,c3⟩,c4⟩,c5⟩,c6⟩,c7⟩,c8⟩,c9⟩,aU⟩,aI⟩,aO⟩:=E;subst c2 c3;split at c1
   ·rename_i sz aL
    obtain ⟨T,kt,et,bC⟩:=zBj c1
    have aC : ∀ t ∈ n.fresh,κ.contains t = false ∧ t < nt:=fun t ht => by
     have:=List.all_eq_true.1 aI t ht;simpa using this
    have bD:=zmS aU;unfold zu7 at he;rw [yb] at he;obtain ⟨r1,aW,b⟩:=he;unfold zxg at b;split at b
    ·rename_i id m hm aZ
     split at b
     ·cases b
     ·rename_i aX
      rw [yb] at b;obtain ⟨es,bF,b⟩:=b;rw [yb] at b;obtain ⟨L,aR,b⟩:=b;rw [Option.map_eq_some_iff] at b;obtain ⟨J,aA,b⟩:=b;subst b;rw [aL] at aA;obtain ⟨hf,bB⟩:=znj aA;have aE:=zsG bF;have y:=zsG aR;obtain ⟨W,lR,N,⟨pR,qR,rR⟩,Y⟩:=zaN c5;have aS:=zly Y;subst aS;have r : f.toList = f.toList.take sp.pre.length ++ [W]:=by rw [← N,List.take_append_drop]
      have hlen : f.toList.length = (f.toList.take sp.pre.length).length + 1:=by
       have:=congrArg List.length r;simpa using this
      refine wp_seq (zdV ?_);rw [hlen,← List.range'_append_1];simp only [ys];refine zCI zyv (f.toList.take sp.pre.length) sp.pre 0 (fun j hj => ?_) c4 aW R0 F fun z A a1 H1 R1 H => ?_
      ·rw [ys,← yi]
       rw [List.getElem?_take,if_pos (by have:=List.length_take_le sp.pre.length f.toList; omega)]
      have I:=H.get c6;rw [hm] at I;simp only [zh,zF] at I;have O : a1.tmps.getD n.tm undef = .map (some (z.ρ id)):=I.2;obtain ⟨_,_,zX,clock,hh,⟨es',q,aH,X⟩,aT,aN⟩:=R1.ob id _ aE;have R:=H.size;have aM : Fr κ [] nt z A ⟨[],r1.env,r1.st,s.base,s.lim⟩ a1:=⟨H.size,H.len,H.env,fun d t h => by simp at h,fun d t h => by simp at h,H.nd,H.bd,H.df⟩;obtain ⟨g2,A1,A2,A3,A4,A5,A6,A7,A8⟩:=zu8 (g0:=z) (w0:=A) (σ0:=r1.st) R1 (Ext.refl z A r1.st) (.mapIter (some (z.ρ id)) clock #[] clock);have aG:=run_range_map (P:=P) A n.mt kt et (z.ρ id) zX clock bC hh
      have bE : f[(f.toList.take sp.pre.length).length]? = some W:=by
       rw [← yi];have key : ∀ (l pre : List Go.Oper),l = pre ++ [W] → l[pre.length]? = some W:=fun l pre e => by rw [e]; simp
       exact key _ _ r
      have bA : z.ρ id < A.heap.size:=(ya.1 hh).1;have aY : κ.contains n.tit = false ∧ n.tit < nt:=aC n.tit (by simp [Nums.fresh]);refine zef (o:=W) bE pR qR aY (zuK rR O aG) fun a2 P2 => ?_
      show Exit.then _ _ .normal a2 _
      simp only [Exit.then];refine wp_block (zxW ?_)
      have p : r1.st.set m (.mp L) = r1.st:=by
       refine List.ext_getElem? fun j => ?_;rw [zwj];split
       ·rename_i hj
        rw [← hj.1];exact y.symm
       ·rfl
      have aK : ∀ x ∈ es',x.2.cells.length = sp.row ∧ C.kns x.2.cells = true ∧ zxz sp.off (some sz) x.2 = some (zoc sp.off sz x.2):=fun x hx => hf x (q.mem_iff.1 hx)
      have hZ : Cp κ nt z A r1.st r1.st r1.env s.base s.lim id m (z.ρ id) clock zX n.tit A.heap.size (([] : List Nat).filterMap fun i => (zX[i]?).map (·.born)).toArray (zsN (([] : List Nat).filterMap fun i => (es'[i]?).map fun x => (x.1,zoc sp.off sz x.2)) L) g2 (A.alloc (.mapIter (some (z.ρ id)) clock #[] clock)) a2:=by
       simp only [List.filterMap_nil,zsN,List.foldl_nil];rw [show ([] : List Nat).toArray = #[] from rfl];refine ⟨by rw [p]; exact A1,by rw [p]; exact A2,by rw [p]; exact P2.fr (aM.tr A3),P2.val R,⟨clock,yd _,zaP A _⟩,(heap_alloc_old A _ bA).trans hh,by rw [A6],A4,A5,yd _⟩
      obtain ⟨K,_⟩:=zw8 X;refine zAT (i0:=i1) T bD aC c7 c8 c9 aO aX aE y aZ aT aN X (zoc sp.off sz) aK (fun is ds g3 w3 a3 aD D S Z => ?_) (zX.size - 0) [] g2 _ a2 rfl .nil (fun i hi => by simp at hi) hZ;simp only [Exit.inBlock,if_true];have B : is.Perm (yq es'.length):=zuW aD List.nodup_range fun i => by rw [D,K]; simp
      have aB : (is.filterMap fun i => (es'[i]?).map fun x => (x.1,zoc sp.off sz x.2)).Perm (es.map fun x => (x.1,zoc sp.off sz x.2)):=by
       have h1:=B.filterMap fun i => (es'[i]?).map fun x => (x.1,zoc sp.off sz x.2);rw [zBn (fun x : Int × V => (x.1,zoc sp.off sz x.2)) es'] at h1;exact h1.trans (q.map _)
      have M : ((is.filterMap fun i => (es'[i]?).map fun x => (x.1,zoc sp.off sz x.2)).map (·.1)).Nodup:=by
       rw [(aB.map (·.1)).nodup_iff,List.map_map];have : (es.map ((·.1) ∘ fun x : Int × V => (x.1,zoc sp.off sz x.2))) = es.map (·.1):=List.map_congr_left fun _ _ => rfl;rw [this];exact (q.map (·.1)).nodup_iff.1 aH
      have aV : (L.map (·.1)).Nodup:=by
       obtain ⟨_,_,_,_,_,⟨bK,aP,aQ,_⟩,_⟩:=R1.ob m _ y;exact (aP.map (·.1)).nodup_iff.1 aQ
      have U : ds.Perm J:=by
       rw [S,bB];exact zCr aB M aV
      have aF : (r1.st.set m (.mp ds))[m]? = some (.mp ds):=zE y;obtain ⟨E1,E2⟩:=zx6 Z.rel aF U;have aJ : (r1.st.set m (.mp ds)).set m (.mp J) = r1.st.set m (.mp J):=(by simp);rw [aJ] at E1 E2;exact k g3 w3 a3 (H1.trans (Z.ext.trans E1)) E2 (Z.fr.tr fun v u h => E1.zh v u h)
    ·cases b
   ·cases c1
  ·cases E
 ·cases E
end
def zs0 (P : Program) : Draws:=⟨fun κ nt gops xs => ztG P κ nt gops xs || zxM P κ nt gops xs,zpC P,zqK P⟩
theorem zxD {P : Program} (hm : P.follows .mixedOrders = true) : DrawOk P (zs0 P) where
 a:=fun Cf S κ nt id gops xs h r r1 h0 hs => by
   simp only [zs0,Bool.or_eq_true] at h;rcases h with h | h
   ·exact zFB hm Cf S κ nt id gops xs h r r1 h0 hs
   ·exact zAj hm Cf S κ nt id gops xs h r r1 h0 hs
 b:=fun Cf S κ nt id gops ps xs h r r1 h0 hs => zG0 hm Cf S κ nt id gops ps xs h r r1 h0 hs
 lab:=fun _ _ _ _ h l => zDL h l
 c:=fun _ _ _ _ h _ _ he _ _ _ _ d F k => zyG h he d F k
def zoL : Option Fun → Option Entry
 | some f => some (.fn f)
 | none => none
def zzz (rows : List (List (Option Fun))) (n : Nat) : Option Entry:=zoL (((rows[n / 16]?).bind (·[n % 16]?)).getD none)
end Go.A
namespace Go.A
open Go.RowKit (Below)
def zxb : List Fz → Option Int
 | [.lit (.int .i64 x)] => some x
 | _ => none
def zhC : List (List Fz) → Option (List Int)
 | [] => some []
 | r :: rs => zg6 (zxb r) (zhC rs)
def zkA (l : List Int) : List Int:=l.mergeSort fun x y => decide (x ≤ y)
def zai : List Int → List Int
 | [] => []
 | [x] => [x]
 | x :: y :: r => if x = y then zai (y :: r) else x :: zai (y :: r)
def zG (x : Int) : List C:=[.f (.lit (.int .i64 x))]
def zzr (x : Int) : List Fz:=[.lit (.int .i64 x)]
def ztQ (σ : zd) (l : List Int) : Option (V × zd) :=
 if l.length ≤ LIM then some (.one (.own σ.length 0 0 l.length),σ ++ [.cells 0 1 ((zkA l).map zG)]) else none
def zsC (σ : zd) : Option C → Option (V × zd)
 | some (.f (.sl xs)) => (zhC xs).bind (ztQ σ)
 | _ => none
def zkk (fv : Nat) : List V → zd → Option (V × zd)
 | [.one (.fn g [] [.ptr id ver i o])],σ => if g = fv ∧ o = 0 then zsC σ (σ.cell id ver i 0) else none
 | _,_ => none
def zoB (ver n : Nat) : Ob → Option (List Int)
 | .cells ver' sz es => if ver' = ver ∧ sz = 1 ∧ es.length = n ∧ n ≤ LIM then (za6 es).bind zhC else none
 | _ => none
def zoy (σ : zd) (id ver : Nat) (l : List Int) : V × zd:=(vsl ((zai l).map zzr),σ.set id (.cells (ver + 1) 1 []))
def zja : List V → zd → Option (V × zd)
 | [.one (.f (.sl []))],σ => some (vsl [],σ)
 | [.one (.own id ver 0 n)],σ => ((σ[id]?).bind (zoB ver n)).map (zoy σ id ver)
 | _,_ => none
theorem zCG {g : G} {w w' : World} {σ : zd} (R : Rel g w σ) (h : Below w.heap.size w w') : Ext g w σ g w' σ ∧ Rel g w' σ:=by
 have H : Ext g w σ g w' σ:={
  os:=h.os
  tape:=h.tape
  output:=h.output
  size:=h.size
  keeps:=fun b o a => ⟨a,by
   unfold World.cell?
   rw [h.block b (R.nb b o a)]⟩
  len:=yd _
  shape:=fun id i sz len d => .inl ⟨d,rfl,fun _ arr t e => ⟨arr,by rw [h.block _ (ya.1 e).1]; exact e,rfl⟩⟩
  map:=fun id es he => ⟨rfl,es,he⟩
  tok:=fun t k n c => ⟨n,c,yd _,fun _ => rfl⟩
  tsz:=fun _ _ d => d
  ow:=fun _ _ => rfl
  new:=fun _ _ c _ _ => c
  frame:=fun b a _ => h.block b a }
 exact ⟨H,fun b o a => Nat.lt_of_lt_of_le (R.nb b o a) h.size,fun id ob f => zcl H rfl (fun _ => rfl) (fun b a _ => ⟨h.block b a,rfl,fun _ c => c⟩) (R.ob id ob f)⟩
end Go.A
namespace Go.A
def zkd : Nat → Option Entry:=fun _ => none
theorem zqR {P : Program} (n : Nat) : zg3 P (zgi zkd (z6 zkd n)):=fun _ _ _ _ _ h => by simp [zgi,zkd] at h
structure TwoOk (P : Program) (CD : Draws) (κ : List Tmp) (gf : Func) (fn1 fn2 : Fun) (c0 c1 c2 : Code) (i0 i1 : Nat) (r0 : Array Go.Oper) (o1 o2 : Go.Oper) (ga gb : Go.Code) (t3 t4 ty ty' ty'' : Nat) : Prop where
 body : gf.body = some (.seq (.region i0 r0 false) (.seq (.seq (.region i1 #[o1,o2] false) (.cond (.tmp t4) ga .skip)) gb))
 b1 : fn1.body = .seq c0 c1
 b2 : fn2.body = .seq c0 c2
 k0 : zv P CD κ gf.ntmps (.region i0 r0 false) c0 = true
 k1 : zv P CD κ gf.ntmps ga c1 = true
 k2 : zv P CD κ gf.ntmps gb c2 = true
 e1 : o1.guard = none ∧ o1.dst = some t3 ∧ o1.op = .move (.tmp 0)
 e2 : o2.guard = none ∧ o2.dst = some t4 ∧ o2.op = .binOp .eql ty (.tmp t3) (.const (.slice none 0 0)) ty'
 ne : t3 ≠ t4
 f3 : κ.contains t3 = false ∧ t3 < gf.ntmps
 f4 : κ.contains t4 = false ∧ t4 < gf.ntmps
 arg : κ[0]? = some 0
 ty : P.underlying ty = some (.slice ty'')
 nd : zj9 κ = true
 all : κ.all (fun t => decide (t < gf.ntmps)) = true
 same : fn1.np = fn2.np ∧ fn1.nslots = fn2.nslots ∧ fn1.keep = fn2.keep
 len : κ.length = fn2.nslots
 np : fn2.np ≤ fn2.nslots
 np2 : fn2.np ≤ gf.ntmps
 hd : κ.take fn2.np = yq fn2.np
 q1 : zj7 P κ gf.results.toList fn1.results = true
 q2 : zj7 P κ gf.results.toList fn2.results = true
section
variable {P : Program} {CD : Draws} {κ : List Tmp}
theorem zCS (hD : DrawOk P CD) {f : Nat} {gf : Func} {fn1 fn2 : Fun} {c0 c1 c2 : Code} {i0 i1 : Nat} {r0 : Array Go.Oper} {S o2 : Go.Oper} {U Y : Go.Code} {t3 t4 ty O k : Nat} (Q : P.funcs[f]? = some gf) (T : TwoOk P CD κ gf fn1 fn2 c0 c1 c2 i0 i1 r0 S o2 U Y t3 t4 ty O k)
  {xs : List (List Fz)} {σ : zd} {v : V} {σ' : zd} {n0 n2 : Nat} {s0 s2 : St} {e2 : Ex} (W : z6 zkd n0 c0 (enter fn2 [vsl xs] σ) = some (.normal,s0)) (E : s0.env.getD 0 vun = vsl xs) (Z : z6 zkd n2 c2 s0 = some (e2,s2)) (l2 : leave fn2.raw fn2.results (e2,s2) = some (v,σ'))
  (h1 : xs = [] → ∃ n1 s1,z6 zkd n1 c1 s0 = some (.ret,s1) ∧ leave fn1.raw fn1.results (.ret,s1) = some (v,σ')) (R : fn2.np = 1) {g : G} {w : World} {us : List Value} (R0 : Rel g w σ) (hv : zO g w σ [vsl xs] us) :
  Calls P f us.toArray w fun e w' => ∃ u g',e = .returned u ∧ zh g' w' σ' v u ∧ Rel g' w' σ' ∧ Ext g w σ g' w' σ':=by
 have hA:=zmP (gf:=gf) (fn:=fn2) R0 hv T.nd T.all T.len T.np T.np2 T.hd (by rw [R]; rfl);have a:=fun n => zpt (P:=P) (CD:=CD) (T:=zkd) (g0:=g.clean σ.length) (w0:=w) (σ0:=σ) (κ:=κ) (nt:=gf.ntmps) hD (zgs g σ.length) n fun m _ => zqR m;have p:=zdo zkd n0 _ _ _ _ W
 have j : ∀ (fn : Fun) (e : Ex) (s : St),zj7 P κ gf.results.toList fn.results = true → leave fn.raw fn.results (e,s) = some (v,σ') → s.lim = (enter fn2 [vsl xs] σ).lim → ∀ x r w',zFs (g.clean σ.length) w σ κ gf.ntmps e s x r w' →
   bodyPost P gf (fun e w' => ∃ u g',e = .returned u ∧ zh g' w' σ' v u ∧ Rel g' w' σ' ∧ Ext g w σ g' w' σ') x r w' ∧ x = zl4 e:=fun fn e s N d t x r w' q => by
  obtain ⟨rfl,g',A'⟩:=q;obtain ⟨q1,q2,u,q3,L,q4,q5,X⟩:=zmI (fn:=fn) (gf:=gf) (zgs g σ.length) (by rw [t]; exact Nat.le_add_right _ _) N d A'
  have i : r.defers = [] ∧ ∃ v1,(results gf r.tmps).run P w' = .ok v1 w' ∧ ∃ u g',(Ending.returned v1) = .returned u ∧ zh g' w' σ' v u ∧ Rel g' w' σ' ∧ Ext g w σ g' w' σ' :=
   ⟨q2,u,q3,u,G.under g w L,rfl,zgf (g:=L) (g':=G.under g w L) rfl rfl rfl _ _ q4,zqO X q5,zqa X⟩
  rcases q1 with rfl | rfl
  ·exact ⟨i,rfl⟩
  ·exact ⟨i,rfl⟩
 refine calls_of_wp Q T.body (wp_seq (wp_mono ((a n0).1 _ c0 _ .normal s0 T.k0 W _ _ _ (yd _) hA) fun x a1 A q => ?_));obtain ⟨rfl,g1,z⟩:=q
 show Exit.then _ _ .normal a1 A
 simp only [Exit.then];have l:=z.fr.size;have hu:=z.fr.env 0 0 T.arg;simp only [E] at hu;simp only [vsl,zh,zF,rep] at hu;obtain ⟨ad,c,sz,hu,_,_,y⟩:=hu;refine wp_seq (wp_seq (zdV ?_));refine zef (o:=S) rfl T.e1.1 T.e1.2.1 T.f3 (zk4 (.inr T.e1.2.2) hu) fun a2 C => ?_;refine zef (o:=o2) (u:=.bool ad.isNone) (w':=A) rfl T.e2.1 T.e2.2.1 T.f4 ?_ fun a3 D => ?_
 ·unfold execOp
  simp only [T.e2.2.2,zf1,C.val l,Act.eval];simp [eqGuard,Lib.run_eql_slice_nil A ty k ad xs.length c 0 0 T.ty]
 show Exit.then _ _ .normal a3 A
 simp only [Exit.then];have A3 : At' (g.clean σ.length) w σ κ gf.ntmps g1 A s0 a3:=⟨z.ext,z.rel,D.fr (C.fr z.fr)⟩;have hle : σ.length ≤ s0.base:=by rw [p.1]; exact yd _
 cases ad with
 | none =>
   have M : xs = []:=by
    rcases y with h | ⟨b,o,h,_⟩
    ·exact h
    ·cases h
   obtain ⟨n1,s1,B,J⟩:=h1 M;have K:=zdo zkd n1 _ _ _ _ B;refine wp_cond_true (D.val (C.size l)) (wp_mono ((a n1).1 U c1 s0 .ret s1 T.k1 B _ _ _ hle A3) fun x a4 I q => ?_);obtain ⟨k1,k2⟩:=j fn1 .ret s1 T.q1 J (by rw [K.2,p.2]) x a4 I q;subst k2;simp only [zl4,Exit.then];exact k1
 | some ad =>
   have H:=zdo zkd n2 _ _ _ _ Z;refine wp_cond_false (D.val (C.size l)) (wp_skip ?_);simp only [Exit.then];exact wp_mono ((a n2).1 Y c2 s0 e2 s2 T.k2 Z _ _ _ hle A3) fun x a4 I q => (j fn2 e2 s2 T.q2 l2 (by rw [H.2,p.2]) x a4 I q).1
def zqB (t3 t4 : Nat) (o1 o2 : Go.Oper) : Bool:=o1.guard.isNone && o1.dst == some t3 && o2.guard.isNone && o2.dst == some t4 &&
 (match o1.op with
  | .move (.tmp 0) => true
  | _ => false) && (match o2.op with
  | .binOp .eql _ (.tmp t) (.const (.slice none 0 0)) _ => t == t3
  | _ => false)
def zDe (o : Go.Oper) : Nat × Nat:=match o.op with
 | .binOp _ t _ _ t' => (t,t')
 | _ => (0,0)
theorem zl7 {t3 t4 : Nat} {c a : Go.Oper} (h : zqB t3 t4 c a = true) : (c.guard = none ∧ c.dst = some t3 ∧ c.op = .move (.tmp 0)) ∧ (a.guard = none ∧ a.dst = some t4 ∧ a.op = .binOp .eql (zDe a).1 (.tmp t3) (.const (.slice none 0 0)) (zDe a).2):=by
 unfold zqB at h;simp only [yc,Option.isNone_iff_eq_none,beq_iff_eq] at h;obtain ⟨⟨⟨⟨⟨f,i⟩,e⟩,g⟩,d⟩,b⟩:=h;refine ⟨⟨f,i,?_⟩,e,g,?_⟩
 ·split at d
  ·assumption
  ·cases d
 ·unfold zDe
  split at b
  ·rename_i heq
   rw [heq];simp only [beq_iff_eq] at b;rw [b]
  ·cases b
def zp5 (P : Program) (t : Nat) : Bool:=match P.underlying t with
 | some (.slice _) => true
 | _ => false
def zoN (P : Program) (CD : Draws) (κ : List Tmp) (gf : Func) (fn1 fn2 : Fun) : Bool:=match gf.body,fn1.body,fn2.body with
 | some (.seq (.region i0 r0 false) (.seq (.seq (.region _ ⟨[o1,o2]⟩ false) (.cond (.tmp t4) ga .skip)) gb)),.seq c0 c1,.seq c0' c2 =>
   zv P CD κ gf.ntmps (.region i0 r0 false) c0 && zv P CD κ gf.ntmps (.region i0 r0 false) c0' && zv P CD κ gf.ntmps ga c1 && zv P CD κ gf.ntmps gb c2 && (match o1.dst with
    | some t3 => zqB t3 t4 o1 o2 && t3 != t4 && !κ.contains t3 && decide (t3 < gf.ntmps)
    | none => false) && !κ.contains t4 && decide (t4 < gf.ntmps) && κ[0]? == some 0 && zp5 P (zDe o2).1 && zj9 κ && κ.all (fun t => decide (t < gf.ntmps)) && κ.length == fn2.nslots && decide (fn2.np ≤ fn2.nslots) && decide (fn2.np ≤ gf.ntmps) && (κ.take fn2.np == yq fn2.np) && zj7 P κ gf.results.toList fn1.results && zj7 P κ gf.results.toList fn2.results
 | _,_,_ => false
def zoA : Code:=.reg [⟨.slot 1,.mv (.c (.one (.f (.sl [])))),none⟩]
def zqU : Code:=.seq (.reg [⟨.slot 1,.mv (.c (.one (.f (.sl [])))),none⟩]) (.ret [false,true])
def zpM (sz : Nat) : Code:=.seq (.reg [⟨.loc,.bsl .tk sz [] [],none⟩,⟨.loc,.mv (.s 0),none⟩,⟨.loc,.app sz (.l 1) (.l 0),none⟩,⟨.slot 1,.mv (.l 0),none⟩]) (.ret [false,true])
def zho : Fun:=⟨1,2,0,false,[(1,none)],.seq zoA zqU⟩
def zga (sz : Nat) : Fun:=⟨1,2,0,false,[(1,none)],.seq zoA (zpM sz)⟩
def zpq (sz : Nat) : List V → zd → Option (V × zd)
 | [.one (.f (.sl xs))],[] => if ztX sz xs = true ∧ xs.length ≤ LIM then some (.one (.f (.sl xs)),[]) else none
 | _,_ => none
theorem zCW (hD : DrawOk P CD) {f : Nat} {gf : Func} {sz : Nat} (hgf : P.funcs[f]? = some gf) (hname : (gf.name == "runtime.NumGoroutine") = false) (hc : zoN P CD [0, 2] gf zho (zga sz) = true) (args : List V) (σ : zd) (v : V) (σ' : zd) (h : zpq sz args σ = some (v, σ')) :
  Enters P f ∧ ∀ g w us,Rel g w σ → zO g w σ args us → Calls P f us.toArray w fun e w' => ∃ u g',e = .returned u ∧ zh g' w' σ' v u ∧ Rel g' w' σ' ∧ Ext g w σ g' w' σ':=by
 unfold zpq at h
 split at h
 ·rename_i xs
  split at h
  ·rename_i hok
   injection h with h
   simp only [Prod.mk.injEq] at h
   obtain ⟨rfl,rfl⟩:=h
   unfold zoN at hc
   split at hc
   ·rename_i i0 r0 i1 o1 o2 t4 ga gb c0 c1 c0' c2 hb hb1 hb2
    simp only [yc,beq_iff_eq,bne_iff_ne,ne_eq,ye,decide_eq_true_eq] at hc
    obtain ⟨⟨⟨⟨⟨⟨⟨⟨⟨⟨⟨⟨⟨⟨⟨⟨h1,h1'⟩,h2⟩,h3⟩,h4⟩,h5⟩,h6⟩,h7⟩,h8⟩,h9⟩,h10⟩,h11⟩,h12⟩,h13⟩,h14⟩,h15⟩,h16⟩:=hc
    split at h4
    ·rename_i t3 ht3
     simp only [yc,bne_iff_ne,ne_eq,ye,decide_eq_true_eq] at h4
     obtain ⟨⟨⟨h4,hne⟩,hk3⟩,hl3⟩:=h4
     obtain ⟨k1,k2⟩:=zl7 h4
     injection hb1 with e1 e2
     injection hb2 with e3 e4
     subst e1 e2 e3 e4
     refine ⟨⟨gf,_,hgf,hname,hb⟩,fun g w us R0 hv => ?_⟩
     obtain ⟨te,hte⟩ : ∃ te,P.underlying (zDe o2).1 = some (.slice te):=by
      unfold zp5 at h8
      split at h8
      ·rename_i te hte; exact ⟨te,hte⟩
      ·cases h8
     have T : TwoOk P CD [0,2] gf zho (zga sz) zoA zqU (zpM sz) i0 i1 r0 o1 o2 ga gb t3 t4 (zDe o2).1 (zDe o2).2 te :=
      ⟨hb,rfl,rfl,h1,h2,h3,k1,k2,hne,⟨hk3,hl3⟩,⟨h5,h6⟩,h7,hte,h9,h10,⟨rfl,rfl,rfl⟩,h11,h12,h13,h14,h15,h16⟩
     refine zCS (n0:=1) (n2:=2) (e2:=.ret) (s0:=⟨[vsl xs,vsl []],[],0,0⟩) (s2:=⟨[vun,.one (.ap 0 0 xs)],[.tok sz [xs.length]],0,0⟩) hD hgf T ?_ rfl ?_ ?_ (fun hxs => ⟨2,⟨[vun,vsl []],[],0,0⟩,?_,?_⟩) rfl R0 hv
     ·simp [z6,zoA,steps,step,zbx,R.get,R.put,zC4,enter,zga,vsl,vun]
     ·simp [z6,zpM,steps,step,zbx,R.get,R.put,zC4,vsl,vun,zpk,zxC,za6,zAN,R.alloc,elems,hok.1,zFS,zoY,Ob.front,Ob.setFront,R.setOb,hok.2,zri,clr,St.mkSt]
     ·simp [leave,zga,outs,zuD,zBr,zFo,zg6,vsl,zk3,zl8,V.lts,V.lt,C.lt,Obs.lt,zFm,vun]
     ·simp [z6,zqU,steps,step,zbx,R.get,R.put,zC4,vsl,vun,zri,clr,St.mkSt]
     ·subst hxs
      simp [leave,zho,outs,zuD,zBr,zFo,zg6,vsl,zk3,zl8,V.lts,V.lt,C.lt,Obs.lt,zFm,vun]
    ·cases h4
   ·cases hc
  ·cases h
 ·cases h
end
end Go.A

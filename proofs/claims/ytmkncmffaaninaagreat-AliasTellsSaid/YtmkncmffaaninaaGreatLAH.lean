/- A part of the proof of AliasTells. Conditions: none. -/
import Derived.Test.YtmkncmffaaninaaGreatLAG
import Derived.Below
import Derived.WalkSpells
set_option linter.all false
open Array renaming getElem?_eq_some_iff → ya,getElem?_setIfInBounds → yf,getElem?_toList → yi,toList_filter → yj
open Option renaming bind_eq_some_iff → yb,map_some → yr
open Bool renaming and_eq_true → yc,not_eq_true' → ye
open Nat renaming le_refl → yd,zero_add → ys
open List renaming mem_cons → yg,filterMap_append → yh,mem_filterMap → yk,not_mem_nil → yl,length_cons → ym,nodup_cons → yn,mem_filter → yo,mem_append → yp,range → yq,range' → yt
namespace Go.A
open Go.ChangeMaps (setBlock)
section
variable {P : Program} {κ : List Tmp} {nt : Nat}
def Nums.bodyB (n : Nums) : List (Option Tmp × Go.Op):=[(some n.t21,.next (.tmp n.tit) false),(some n.t22,.extract (.tmp n.t21) 0)]
theorem zFx {g g0 : G} {w w0 : World} {σ σ0 : zd} (R : Rel g w σ) (c : Ext g0 w0 σ0 g w σ) {a : World} (h : a = w ∨ a = w.drew) : Ext g0 w0 σ0 g a σ ∧ Rel g a σ ∧ (∀ v u,zh g w σ v u → zh g a σ v u) ∧ a.heap = w.heap:=by
 rcases h with rfl | rfl
 ·exact ⟨c,R,fun _ _ h => h,rfl⟩
 ·obtain ⟨b,d⟩:=drawn R 1
  exact ⟨c.trans b,d,fun v u h => b.zh v u h,rfl⟩
theorem zx0 {g : G} {w : World} {σ : zd} : ∀ {es : List (Int × V)} {z8 : List MapEntry},zqR g w σ es z8 → es.length = z8.length ∧ ∀ (i : Nat) (x : Int × V),es[i]? = some x → ∃ e : MapEntry,z8[i]? = some e ∧ e.key = .int .i64 x.1 ∧ zh g w σ x.2 e.val
 | [],z8,h => by
   have : z8 = []:=h;subst this;exact ⟨rfl,fun i x a => by simp at a⟩
 | y :: es,_,h => by
   obtain ⟨e,rest,rfl,b,j,c⟩:=h;obtain ⟨f,d⟩:=zx0 c;refine ⟨by simp [f],fun i x a => ?_⟩
   cases i with
   | zero => simp at a; subst a; exact ⟨e,by simp,b,j⟩
   | succ i => simpa using d i x (by simpa using a)
theorem nodup_lt_length : ∀ (n : Nat) (l : List Nat),l.Nodup → (∀ x ∈ l,x < n) → l.length ≤ n
 | 0,l,_,h => by
   cases l with
   | nil => simp
   | cons x l => have:=h x (by simp); omega
 | n + 1,l,hn,h => by
   by_cases hm : n ∈ l
   ·have c:=List.length_erase_of_mem hm
    have d:=nodup_lt_length n (l.erase n) (hn.erase n) fun x a => by
     have b:=(hn.mem_erase_iff).1 a;have:=h x b.2;have:=b.1;omega
    omega
   ·have:=nodup_lt_length n l hn fun x a => by
     have:=h x a;have : x ≠ n:=fun e => hm (e ▸ a);omega
    omega
theorem zDs {n : Nums} {off sz row : Nat} (T : TyOk P n off sz row) (aK : n.fresh.Nodup) (hk : ∀ t ∈ n.fresh,κ.contains t = false ∧ t < nt) {B Y S : Array Go.Oper} (hB : zhV B.toList n.bodyB = true) (hC : zhV Y.toList n.bodyC = true) (hD : zhV S.toList n.bodyD = true) {ib i0 i2 ic aQ dst : Nat} (aL : κ[dst]? = some n.t5)
  {g0 : G} {w0 : World} {σ : zd} {env : List V} {b l id q bm clock r : Nat} {z8 : Array MapEntry} {p : List (Int × V)} {Q : Exit → Act → World → Prop}
  (bB : id ≠ q) {es : List (Int × V)} (aU : σ[id]? = some (.mp es)) (aH : σ[q]? = some (.mp p)) (aJ : env.getD dst vun = .one (.map q)) (D : (z8.toList.map (·.born)).Nodup) (J : ∀ e ∈ z8.toList,e.born < clock)
  {es' : List (Int × V)} (hm : zqR g0 w0 σ es' z8.toList) (f : V → V) (hf : ∀ x ∈ es',x.2.cells.length = row ∧ C.kns x.2.cells = true ∧ zzT off (some sz) x.2 = some (f x.2))
  (hQ : ∀ (is : List Nat) (ds : List (Int × V)) (g : G) (w : World) (a : Act),is.Nodup → (∀ i,i ∈ is ↔ i < z8.size) → ds = zt0 (is.filterMap fun i => (es'[i]?).map fun x => (x.1,f x.2)) p → Cp κ nt g0 w0 σ σ env b l id q bm clock z8 n.tit r (is.filterMap fun i => (z8[i]?).map (·.born)).toArray ds g w a → Q (.exit i0) a w) :
  ∀ (m : Nat) (is : List Nat) (g : G) (w : World) (a : Act),z8.size - is.length = m → is.Nodup → (∀ i ∈ is,i < z8.size) →
  Cp κ nt g0 w0 σ σ env b l id q bm clock z8 n.tit r (is.filterMap fun i => (z8[i]?).map (·.born)).toArray (zt0 (is.filterMap fun i => (es'[i]?).map fun x => (x.1,f x.2)) p) g w a →
  RL P (.seq (.region ib B false) (.seq (.cond (.tmp n.t22) .skip (.exit i0)) (.block i2 (.seq (.region ic Y false) (.region aQ S false))))) Q a w:=by
 obtain ⟨lB⟩:=B;simp only [Nums.bodyB] at hB;obtain ⟨o0,l1,rfl,⟨p0,q0,r0⟩,hB⟩:=za4 hB;obtain ⟨o1,l2,rfl,⟨p1,q1,r1⟩,hB⟩:=za4 hB;have aY:=zmg hB;subst aY;have X:=aK;have aI:=hk;simp only [Nums.fresh,yn,yg,yl,or_false,not_or,List.nodup_nil,and_true,not_false_eq_true] at X;obtain ⟨⟨e1,e2,_⟩,⟨f1,_⟩,_⟩:=X;simp only [Nums.fresh,yg,yl,or_false,forall_eq_or_imp,forall_eq] at aI;obtain ⟨bC,U,W,_⟩:=aI;obtain ⟨hlen,bA⟩:=zx0 hm;intro m
 induction m using Nat.strongRecOn with
 | _ m ih =>
   intro is g w a bD R z Z;have H:=Z.fr.size;obtain ⟨c0,aE,hr⟩:=Z.hr
   have aZ : bm ≠ r:=fun e => by
    have:=Z.hb;rw [e,hr] at this;cases this
   have aA : ∀ e ∈ (leftOf z8 (is.filterMap fun i => (z8[i]?).map (·.born)).toArray).toList,∃ i,z8[i]? = some e ∧ i ∉ is:=fun e he => by
    unfold leftOf at he;simp only [yj,yo,ye] at he;obtain ⟨aS,aO⟩:=he;obtain ⟨i,I⟩:=List.mem_iff_getElem?.1 aS;refine ⟨i,by simpa using I,fun aP => ?_⟩
    have : e.born ∈ is.filterMap fun i => (z8[i]?).map (·.born):=yk.2 ⟨i,aP,by
     have : z8[i]? = some e:=by simpa using I
     rw [this]; rfl⟩
    simp at aO;simp at this;obtain ⟨i',K,h2,h3⟩:=this;exact aO i' K h2 h3.1 h3.2
   have aM : (leftOf z8 (is.filterMap fun i => (z8[i]?).map (·.born)).toArray).size = 0 → ∀ i,i ∈ is ↔ i < z8.size:=fun h0 i => by
    refine ⟨z i,fun I => ?_⟩;refine Classical.byContradiction fun aD => ?_
    have O : z8[i] ∈ (leftOf z8 (is.filterMap fun i => (z8[i]?).map (·.born)).toArray).toList:=by
     unfold leftOf;simp only [yj,yo,ye];refine ⟨by simp,?_⟩;rw [Bool.eq_false_iff];intro hc;have aR : z8[i].born ∈ is.filterMap fun i => (z8[i]?).map (·.born):=by simpa using hc
     obtain ⟨i',K,h2⟩:=yk.1 aR;have aF:=z i' K;rw [Array.getElem?_eq_getElem aF] at h2;simp only [yr,Option.some.injEq] at h2;have : i' = i:=zlV D (i:=i') (j:=i) (x:=z8[i].born) (by simp [aF,h2]) (by simp [I]);subst this;exact aD K
    have : (leftOf z8 (is.filterMap fun i => (z8[i]?).map (·.born)).toArray).toList = []:=by
     rw [← List.length_eq_zero_iff];simpa using h0
    rw [this] at O;simp at O
   refine zxx (wp_seq (zem ?_));rcases run_next_at (P:=P) w o0.type r bm clock c0 _ z8 clock hr Z.hb J aE with ⟨h0,A⟩ | ⟨e,aT,w1,aW,A⟩
   ·
    refine zeN (o:=o0) rfl p0 q0 U (zrR r0 Z.it A) fun a0 L => ?_;refine zeN (o:=o1) rfl p1 q1 W (zhi r1 (L.val H) rfl) fun a1 P1 => ?_
    show Exit.then _ _ .normal a1 w
    simp only [Exit.then];refine wp_seq (wp_cond_false (P1.val (L.size H)) (wp_exit ?_));simp only [Exit.then];refine hQ is _ g w a1 R (aM h0) rfl ⟨Z.ext,Z.rel,P1.fr (L.fr Z.fr),(P1.other _ e2).trans ((L.other _ e1).trans Z.it),⟨c0,aE,hr⟩,Z.hb,Z.rho,Z.ow,Z.no,Z.new⟩
   ·
    obtain ⟨i,I,aD⟩:=aA e aT;have E : i < z8.size:=(ya.1 I).1;obtain ⟨D1,D2,D3,D4⟩:=zFx Z.rel Z.ext aW;obtain ⟨B1,B2,B3⟩:=zLC D2 D1 Z.new Z.ow Z.no (.mapIter (some bm) clock ((is.filterMap fun i => (z8[i]?).map (·.born)).toArray.push e.born) clock);refine zeN (o:=o0) rfl p0 q0 U (zrR r0 Z.it A) fun a0 L => ?_;refine zeN (o:=o1) rfl p1 q1 W (zhi r1 (L.val H) rfl) fun a1 P1 => ?_
    show Exit.then _ _ .normal a1 _
    simp only [Exit.then];refine wp_seq (wp_cond_true (P1.val (L.size H)) (wp_skip ?_));simp only [Exit.then];have aB : i < es'.length:=(by rw [hlen]; simpa using E);obtain ⟨M,K,h2,h3⟩:=bA i es'[i] (List.getElem?_eq_getElem aB)
    have aX : M = e:=by
     have : z8.toList[i]? = some e:=(by simpa using I);rw [this] at K;injection K with K;exact K.symm
    subst aX;obtain ⟨t1,t2,t3⟩:=hf es'[i] (List.getElem_mem aB)
    have c : ((is ++ [i]).filterMap fun i => (z8[i]?).map (·.born)).toArray = (is.filterMap fun i => (z8[i]?).map (·.born)).toArray.push M.born:=by
     rw [yh];simp [I]
    have aG : r < w.heap.size:=(ya.1 hr).1
    have N : (setBlock w1 r (.mapIter (some bm) clock ((is.filterMap fun i => (z8[i]?).map (·.born)).toArray.push M.born) clock)).heap[r]? = some (.mapIter (some bm) clock ((is.filterMap fun i => (z8[i]?).map (·.born)).toArray.push M.born) clock):=by
     show (w1.heap.setIfInBounds r _)[r]? = _
     rw [D4,yf];simp [aG]
    have hZ : Cp κ nt g0 w0 σ σ env b l id q bm clock z8 n.tit r ((is ++ [i]).filterMap fun i => (z8[i]?).map (·.born)).toArray (zt0 (is.filterMap fun i => (es'[i]?).map fun x => (x.1,f x.2)) p) g (setBlock w1 r (.mapIter (some bm) clock ((is.filterMap fun i => (z8[i]?).map (·.born)).toArray.push M.born) clock)) a1 :=
     ⟨B1,B2,P1.fr (L.fr (Z.fr.tr fun v u h => B3 v u (D3 v u h))),(P1.other _ e2).trans ((L.other _ e1).trans Z.it),⟨clock,yd _,by rw [c]; exact N⟩,by
      show (w1.heap.setIfInBounds r _)[bm]? = _
      rw [D4,yf,if_neg (Ne.symm aZ)]
      exact Z.hb,Z.rho,Z.ow,Z.no,Z.new⟩
    have aV : zh g (setBlock w1 r (.mapIter (some bm) clock ((is.filterMap fun i => (z8[i]?).map (·.born)).toArray.push M.born) clock)) (σ.set q (.mp (zt0 (is.filterMap fun i => (es'[i]?).map fun x => (x.1,f x.2)) p))) es'[i].2 M.val:=B1.zh _ _ h3
    refine zES (v:=es'[i].2) (v':=f es'[i].2) (k:=es'[i].1) (e:=M) T aK hk hC hD aL bB aU aH aJ hZ (by rw [N,c]; simp) (by rw [c]; simp) (by
     have : z8.toList[i]? = some M:=by simpa using I
     exact List.mem_of_getElem? this) D h2 aV t1 t2 t3 fun g' w' a' Z' => ?_
    simp only [Exit.then]
    have aC : zg5 es'[i].1 (f es'[i].2) (zt0 (is.filterMap fun i => (es'[i]?).map fun x => (x.1,f x.2)) p) = zt0 ((is ++ [i]).filterMap fun i => (es'[i]?).map fun x => (x.1,f x.2)) p:=by
     rw [yh,zym];simp [aB,zt0]
    rw [aC] at Z'
    have s : (is ++ [i]).Nodup:=List.nodup_append.2 ⟨R,by simp,fun x d y hy => by
     simp at hy;subst hy
     exact fun e => aD (e ▸ d)⟩
    have aN : (is ++ [i]).length ≤ z8.size:=by
     refine nodup_lt_length _ _ s fun x d => ?_;rcases yp.1 d with d | d
     ·exact z x d
     ·simp at d; subst d; exact E
    refine ih (z8.size - (is ++ [i]).length) (by simp at aN ⊢; omega) (is ++ [i]) g' w' a' rfl s (fun x d => ?_) Z';rcases yp.1 d with d | d
    ·exact z x d
    ·simp at d; subst d; exact E
end
end Go.A
namespace Go.A
section
variable {P : Program} {κ : List Tmp} {nt : Nat}
def zDX : List Go.Oper → List Oper → List (Option Tmp) → List (Option Tmp)
 | o :: os,x :: xs,loc => zDX os xs (zbE o.dst x.dst :: loc)
 | _,_,loc => loc
theorem zCJ {c : zaz} (S : zhU P c) {gops : Array Go.Oper} {Q : Exit → Act → World → Prop} {rest : List Nat} : ∀ (os : List Go.Oper) (xs : List Oper) (i : Nat) {loc : List (Option Tmp)} {g : G} {w : World} {r : R} {a : Act} {r1 : R},(∀ j,j < os.length → os[j]? = gops[i + j]?) → zlz P κ nt gops loc os xs = true → steps c xs r = some r1 → Rel g w r.st → Fr κ loc nt g w r a →
  (∀ g' w' a',Ext g w r.st g' w' r1.st → Rel g' w' r1.st → Fr κ (zDX os xs loc) nt g' w' r1 a' → wpOps P gops Q rest a' w') → wpOps P gops Q (yt i os.length ++ rest) a w
 | [],[],i,loc,g,w,r,a,r1,_,_,h,R0,F,k => by
   simp only [steps,Option.some.injEq] at h;subst h;exact k g w a (Ext.refl _ _ _) R0 F
 | o :: os,x :: xs,i,loc,g,w,r,a,r1,hi,hc,h,R0,F,k => by
   simp only [zlz,yc] at hc;obtain ⟨⟨⟨u,m⟩,q⟩,t⟩:=hc;simp only [steps,yb] at h;obtain ⟨z,d,e⟩:=h;have b : gops[i]? = some o:=(by simpa using (hi 0 (by simp)).symm);rw [ym,List.range'_succ]
   have key:=zek (Q:=Q) (gops:=gops) (next:=wpOps P gops Q (yt (i + 1) os.length ++ rest)) S R0 F u m q d (fun g' w' a' H l _ p =>
    zCJ S os xs (i + 1) (fun j A => by
     have:=hi (j + 1) (by simp; omega);rw [show i + (j + 1) = i + 1 + j from by omega] at this;rw [← this]
     simp) t e l p fun n v a2 s f y => k n v a2 (H.trans s) f y) (fun _ h => h)
   simp only [List.cons_append,wpOps,b];split
   ·rename_i hw
    rw [if_pos hw] at key;exact .inl key
   ·rename_i hw
    rw [if_neg hw] at key;exact key
 | [],_ :: _,_,_,_,_,_,_,_,_,hc,_,_,_,_ => by simp [zlz] at hc
 | _ :: _,[],_,_,_,_,_,_,_,_,hc,_,_,_,_ => by simp [zlz] at hc
def zDy (P : Program) (n : Nums) (off sz row : Nat) : Bool :=
 (match zeroOf P n.ty with
  | some zs => zs.length == row
  | none => false) && zj1 P n.ty == some row && decide (0 < row) &&
 (match P.underlying n.ty with
  | some (.struct fs) => (match fs[n.fi]? with
    | some f => (match zj1 P f.type with
      | some k => decide (k ≠ 0)
      | none => false) && f.offset == off
    | none => false)
  | _ => false) && zmR P n.lt == some true && zj1 P n.lt == some sz &&
 (match P.underlying n.dt with
  | some (.map key _) => (match P.underlying key with
    | some (.int .i64) => true
    | _ => false)
  | _ => false) && (match P.underlying n.mt with
  | some (.map _ _) => true
  | _ => false)
def zt5 (P : Program) (κ : List Tmp) (nt : Nat) (sp : Spec) (n : Nums) : Go.Code → Bool
 | .seq (.region _ opsA false) (.block i0 (.loop (.seq (.region _ opsB false) (.seq (.cond (.tmp tc) .skip (.exit i1)) (.block _ (.seq (.region _ opsC false) (.region _ opsD false))))))) =>
   (match sp.sz with
    | some sz => zDy P n sp.off sz sp.row
    | none => false) && tc == n.t22 && i1 == i0 && zlz P κ nt opsA [] (opsA.toList.take sp.pre.length) sp.pre && zhV (opsA.toList.drop sp.pre.length) [(some n.tit,.range n.mt (.tmp n.tm))] &&
   okX κ (zDX (opsA.toList.take sp.pre.length) sp.pre []) (.tmp n.tm) sp.m && zhV opsB.toList n.bodyB && zhV opsC.toList n.bodyC && zhV opsD.toList n.bodyD && zk2 n.fresh && n.fresh.all (fun t => !κ.contains t && decide (t < nt)) && κ[sp.dst]? == some n.t5
 | _ => false
def zqS (P : Program) (κ : List Tmp) (nt : Nat) (c : Go.Code) (sp : Spec) : Bool:=match zI8 sp.ns with
 | some n => zt5 P κ nt sp n c
 | none => false
theorem zCC {n : Nums} {off sz row : Nat} (h : zDy P n off sz row = true) : TyOk P n off sz row ∧ ∃ k e,P.underlying n.mt = some (.map k e):=by
 unfold zDy at h;simp only [yc,beq_iff_eq,decide_eq_true_eq] at h;obtain ⟨⟨⟨⟨⟨⟨⟨g,o⟩,p⟩,a⟩,l⟩,m⟩,b⟩,i⟩:=h;refine ⟨⟨?_,o,p,?_,l,m,?_⟩,?_⟩
 ·split at g
  ·rename_i s q
   exact ⟨s,q,by simpa using g⟩
  ·cases g
 ·split at a
  ·rename_i fs c
   split at a
   ·rename_i f r
    simp only [yc,beq_iff_eq] at a;obtain ⟨a,j⟩:=a;split at a
    ·rename_i k d
     exact ⟨fs,f,k,c,r,d,by simpa using a,j⟩
    ·cases a
   ·cases a
  ·cases a
 ·split at b
  ·rename_i key e hd
   split at b
   ·rename_i d
    exact ⟨key,e,hd,d⟩
   ·cases b
  ·cases b
 ·split at i
  ·rename_i k e hm
   exact ⟨k,e,hm⟩
  ·cases i
def zpe (off sz : Nat) (v : V) : V:=(zzT off (some sz) v).getD vun
theorem zoy {off sz row : Nat} : ∀ {es ds a : List (Int × V)},zjc off (some sz) row es ds = some a → (∀ x ∈ es,x.2.cells.length = row ∧ C.kns x.2.cells = true ∧ zzT off (some sz) x.2 = some (zpe off sz x.2)) ∧ a = zt0 (es.map fun x => (x.1,zpe off sz x.2)) ds
 | [],ds,a,h => by
   simp only [zjc,Option.some.injEq] at h;exact ⟨fun x b => by simp at b,h.symm⟩
 | e :: es,ds,a,h => by
   simp only [zjc] at h;split at h
   ·rename_i f
    rw [yb] at h;obtain ⟨v,c,j⟩:=h;obtain ⟨i,g⟩:=zoy j;have d : zpe off sz e.2 = v:=(by unfold zpe; rw [c]; rfl);refine ⟨fun x b => ?_,?_⟩
    ·rcases yg.1 b with rfl | b
     ·exact ⟨f.1,f.2,by rw [d]; exact c⟩
     ·exact i x b
    ·rw [g]
     simp [zt0,d]
   ·cases h
theorem zwd {l a : List Nat} (d : l.Nodup) (f : a.Nodup) (h : ∀ x,x ∈ l ↔ x ∈ a) : l.Perm a:=by
 induction l generalizing a with
 | nil =>
   cases a with
   | nil => exact .nil
   | cons y a => have:=(h y).2 (by simp); simp at this
 | cons x l ih =>
   have g : x ∈ a:=(h x).1 (by simp);rw [yn] at d;refine (List.Perm.cons x (ih d.2 (f.erase x) fun y => ?_)).trans (List.perm_cons_erase g).symm;rw [f.mem_erase_iff];constructor
   ·intro b
    exact ⟨fun e => d.1 (e ▸ b),(h y).1 (List.mem_cons_of_mem _ b)⟩
   ·rintro ⟨c,b⟩
    rcases yg.1 ((h y).2 b) with e | e
    ·exact absurd e c
    ·exact e
theorem zD5 {α β : Type} (f : α → β) : ∀ (l : List α),(yq l.length).filterMap (fun i => (l[i]?).map f) = l.map f:=by
 intro l
 induction l with
 | nil => rfl
 | cons x l ih =>
   rw [ym,List.range_succ_eq_map];simp only [List.filterMap_cons,List.getElem?_cons_zero,yr,List.filterMap_map,List.map_cons]
   congr 1
theorem zAy : zhU P zwb:=fun _ _ _ _ _ h => by cases h
theorem zFI {sp : Spec} {c : Go.Code} (h : zqS P κ nt c sp = true) (l : Nat) : Go.findLabel c l = none:=by
 unfold zqS at h;split at h
 ·unfold zt5 at h
  split at h
  ·simp [Go.findLabel]
  ·cases h
 ·cases h
theorem zAC {c : Go.Code} {sp : Spec} (E : zqS P κ nt c sp = true) {s s1 : St} (he : zxc sp s = some s1) {g : G} {w : World} {a : Act} {Q : Exit → Act → World → Prop} (R0 : Rel g w s.st) (F : Fr κ [] nt g w ⟨[],s.env,s.st,s.base,s.lim⟩ a)
  (k : ∀ g' w' a',Ext g w s.st g' w' s1.st → Rel g' w' s1.st → Fr κ [] nt g' w' ⟨[],s1.env,s1.st,s1.base,s1.lim⟩ a' → Q .normal a' w') : c.wp P Q a w:=by
 unfold zqS at E;split at E
 ·rename_i n hn
  unfold zt5 at E;split at E
  ·rename_i ia f i0 ib bF tc i1 i2 ic bH bI bG
   simp only [yc,beq_iff_eq] at E;obtain ⟨⟨⟨⟨⟨⟨⟨⟨⟨⟨⟨c1,c2⟩,c3⟩,c4⟩,c5⟩,c6⟩,c7⟩,c8⟩,c9⟩,aY⟩,aV⟩,aM⟩:=E;subst c2 c3;split at c1
   ·rename_i sz aP
    obtain ⟨T,kt,et,aH⟩:=zCC c1
    have R : ∀ t ∈ n.fresh,κ.contains t = false ∧ t < nt:=fun t ht => by
     have:=List.all_eq_true.1 aV t ht;simpa using this
    have aX:=znO aY;unfold zxc at he;rw [yb] at he;obtain ⟨r1,aR,b⟩:=he;unfold zyZ at b;split at b
    ·rename_i id m hm aQ
     split at b
     ·cases b
     ·rename_i bD
      rw [yb] at b;obtain ⟨es,bE,b⟩:=b;rw [yb] at b;obtain ⟨N,aO,b⟩:=b;rw [Option.map_eq_some_iff] at b;obtain ⟨L,aD,b⟩:=b;subst b;rw [aP] at aD;obtain ⟨hf,aN⟩:=zoy aD;have aC:=zuC bE;have r:=zuC aO;obtain ⟨oR,lR,J,⟨pR,qR,rR⟩,O⟩:=za4 c5;have aL:=zmg O;subst aL;have y : f.toList = f.toList.take sp.pre.length ++ [oR]:=by rw [← J,List.take_append_drop]
      have hlen : f.toList.length = (f.toList.take sp.pre.length).length + 1:=by
       have:=congrArg List.length y;simpa using this
      refine wp_seq (zem ?_);rw [hlen,← List.range'_append_1];simp only [ys];refine zCJ zAy (f.toList.take sp.pre.length) sp.pre 0 (fun j hj => ?_) c4 aR R0 F fun A z a1 H1 R1 H => ?_
      ·rw [ys,← yi]
       rw [List.getElem?_take,if_pos (by have:=List.length_take_le sp.pre.length f.toList; omega)]
      have I:=H.get c6;rw [hm] at I;simp only [zh,zK] at I;have aG : a1.tmps.getD n.tm undef = .map (some (A.ρ id)):=I.2;obtain ⟨_,_,z8,clock,hh,⟨es',q,aA,U⟩,aK,aI⟩:=R1.ob id _ aC;have S:=H.size;have aZ : Fr κ [] nt A z ⟨[],r1.env,r1.st,s.base,s.lim⟩ a1:=⟨H.size,H.len,H.env,fun d t h => by simp at h,fun d t h => by simp at h,H.nd,H.bd,H.df⟩;obtain ⟨g2,A1,A2,A3,A4,A5,A6,A7,A8⟩:=zwO (g0:=A) (w0:=z) (σ0:=r1.st) R1 (Ext.refl A z r1.st) (.mapIter (some (A.ρ id)) clock #[] clock);have X:=run_range_map (P:=P) z n.mt kt et (A.ρ id) z8 clock aH hh
      have bC : f[(f.toList.take sp.pre.length).length]? = some oR:=by
       rw [← yi];have key : ∀ (l pre : List Go.Oper),l = pre ++ [oR] → l[pre.length]? = some oR:=fun l pre e => by rw [e]; simp
       exact key _ _ y
      have bB : A.ρ id < z.heap.size:=(ya.1 hh).1;have aS : κ.contains n.tit = false ∧ n.tit < nt:=R n.tit (by simp [Nums.fresh]);refine zeN (o:=oR) bC pR qR aS (zwS rR aG X) fun a2 P2 => ?_
      show Exit.then _ _ .normal a2 _
      simp only [Exit.then];refine wp_block (zyX ?_)
      have p : r1.st.set m (.mp N) = r1.st:=by
       refine List.ext_getElem? fun j => ?_;rw [zyz];split
       ·rename_i hj
        rw [← hj.1];exact r.symm
       ·rfl
      have aJ : ∀ x ∈ es',x.2.cells.length = sp.row ∧ C.kns x.2.cells = true ∧ zzT sp.off (some sz) x.2 = some (zpe sp.off sz x.2):=fun x hx => hf x (q.mem_iff.1 hx)
      have hZ : Cp κ nt A z r1.st r1.st r1.env s.base s.lim id m (A.ρ id) clock z8 n.tit z.heap.size (([] : List Nat).filterMap fun i => (z8[i]?).map (·.born)).toArray (zt0 (([] : List Nat).filterMap fun i => (es'[i]?).map fun x => (x.1,zpe sp.off sz x.2)) N) g2 (z.alloc (.mapIter (some (A.ρ id)) clock #[] clock)) a2:=by
       simp only [List.filterMap_nil,zt0,List.foldl_nil];rw [show ([] : List Nat).toArray = #[] from rfl];refine ⟨by rw [p]; exact A1,by rw [p]; exact A2,by rw [p]; exact P2.fr (aZ.tr A3),P2.val S,⟨clock,yd _,zaZ z _⟩,(heap_alloc_old z _ bB).trans hh,by rw [A6],A4,A5,yd _⟩
      obtain ⟨K,_⟩:=zx0 U;refine zDs (i0:=i1) T aX R c7 c8 c9 aM bD aC r aQ aK aI U (zpe sp.off sz) aJ (fun is ds g3 w3 a3 Y D aB Z => ?_) (z8.size - 0) [] g2 _ a2 rfl .nil (fun i hi => by simp at hi) hZ;simp only [Exit.inBlock,if_true];have B : is.Perm (yq es'.length):=zwd Y List.nodup_range fun i => by rw [D,K]; simp
      have aE : (is.filterMap fun i => (es'[i]?).map fun x => (x.1,zpe sp.off sz x.2)).Perm (es.map fun x => (x.1,zpe sp.off sz x.2)):=by
       have h1:=B.filterMap fun i => (es'[i]?).map fun x => (x.1,zpe sp.off sz x.2);rw [zD5 (fun x : Int × V => (x.1,zpe sp.off sz x.2)) es'] at h1;exact h1.trans (q.map _)
      have M : ((is.filterMap fun i => (es'[i]?).map fun x => (x.1,zpe sp.off sz x.2)).map (·.1)).Nodup:=by
       rw [(aE.map (·.1)).nodup_iff,List.map_map];have : (es.map ((·.1) ∘ fun x : Int × V => (x.1,zpe sp.off sz x.2))) = es.map (·.1):=List.map_congr_left fun _ _ => rfl;rw [this];exact (q.map (·.1)).nodup_iff.1 aA
      have aU : (N.map (·.1)).Nodup:=by
       obtain ⟨_,_,_,_,_,⟨bJ,bA,aW,_⟩,_⟩:=R1.ob m _ r;exact (bA.map (·.1)).nodup_iff.1 aW
      have aF : ds.Perm L:=by
       rw [aB,aN];exact zB2 aE M aU
      have W : (r1.st.set m (.mp ds))[m]? = some (.mp ds):=zI r;obtain ⟨E1,E2⟩:=zyK Z.rel W aF;have aT : (r1.st.set m (.mp ds)).set m (.mp L) = r1.st.set m (.mp L):=(by simp);rw [aT] at E1 E2;exact k g3 w3 a3 (H1.trans (Z.ext.trans E1)) E2 (Z.fr.tr fun v u h => E1.zh v u h)
    ·cases b
   ·cases c1
  ·cases E
 ·cases E
end
def zuW (P : Program) : Draws:=⟨fun κ nt gops xs => zui P κ nt gops xs || zyO P κ nt gops xs,zqu P,zqS P⟩
theorem zzm {P : Program} (hm : P.follows .mixedOrders = true) : DrawOk P (zuW P) where
 a:=fun Cf S κ nt id gops xs h r r1 h0 hs => by
   simp only [zuW,Bool.or_eq_true] at h;rcases h with h | h
   ·exact zH4 hm Cf S κ nt id gops xs h r r1 h0 hs
   ·exact zDv hm Cf S κ nt id gops xs h r r1 h0 hs
 b:=fun Cf S κ nt id gops ps xs h r r1 h0 hs => zIY hm Cf S κ nt id gops ps xs h r r1 h0 hs
 lab:=fun _ _ _ _ h l => zFI h l
 c:=fun _ _ _ _ h _ _ he _ _ _ _ d F k => zAC h he d F k
def zpI : Option Fun → Option Entry
 | some f => some (.fn f)
 | none => none
def zBo (rows : List (List (Option Fun))) (n : Nat) : Option Entry:=zpI (((rows[n / 16]?).bind (·[n % 16]?)).getD none)
end Go.A
namespace Go.A
open Go.RowKit (Below)
def zze : List Fz → Option Int
 | [.lit (.int .i64 x)] => some x
 | _ => none
def zio : List (List Fz) → Option (List Int)
 | [] => some []
 | r :: rs => zhN (zze r) (zio rs)
def zkZ (l : List Int) : List Int:=l.mergeSort fun x y => decide (x ≤ y)
def zam : List Int → List Int
 | [] => []
 | [x] => [x]
 | x :: y :: r => if x = y then zam (y :: r) else x :: zam (y :: r)
def zL (x : Int) : List C:=[.f (.lit (.int .i64 x))]
def zAk (x : Int) : List Fz:=[.lit (.int .i64 x)]
def zuS (σ : zd) (l : List Int) : Option (V × zd) :=
 if l.length ≤ LIM then some (.one (.own σ.length 0 0 l.length),σ ++ [.cells 0 1 ((zkZ l).map zL)]) else none
def zt7 (σ : zd) : Option C → Option (V × zd)
 | some (.f (.sl xs)) => (zio xs).bind (zuS σ)
 | _ => none
def zlM (fv : Nat) : List V → zd → Option (V × zd)
 | [.one (.fn g [] [.ptr id ver i o])],σ => if g = fv ∧ o = 0 then zt7 σ (σ.cell id ver i 0) else none
 | _,_ => none
def zpk (ver n : Nat) : Ob → Option (List Int)
 | .cells ver' sz es => if ver' = ver ∧ sz = 1 ∧ es.length = n ∧ n ≤ LIM then (zbo es).bind zio else none
 | _ => none
def zpC (σ : zd) (id ver : Nat) (l : List Int) : V × zd:=(vsl ((zam l).map zAk),σ.set id (.cells (ver + 1) 1 []))
def zjT : List V → zd → Option (V × zd)
 | [.one (.f (.sl []))],σ => some (vsl [],σ)
 | [.one (.own id ver 0 n)],σ => ((σ[id]?).bind (zpk ver n)).map (zpC σ id ver)
 | _,_ => none
theorem zD4 {g : G} {w w' : World} {σ : zd} (R : Rel g w σ) (h : Below w.heap.size w w') : Ext g w σ g w' σ ∧ Rel g w' σ:=by
 have H : Ext g w σ g w' σ:={
  os:=h.os
  tape:=h.tape
  output:=h.output
  size:=h.size
  keeps:=fun b o a => ⟨a,by
   unfold World.cell?
   rw [h.block b (R.nb b o a)]⟩
  len:=yd _
  shape:=fun id f sz len d => .inl ⟨d,rfl,fun _ arr t e => ⟨arr,by rw [h.block _ (ya.1 e).1]; exact e,rfl⟩⟩
  map:=fun id es he => ⟨rfl,es,he⟩
  tok:=fun t k n c => ⟨n,c,yd _,fun _ => rfl⟩
  tsz:=fun _ _ d => d
  ow:=fun _ _ => rfl
  new:=fun _ _ c _ _ => c
  frame:=fun b a _ => h.block b a }
 exact ⟨H,fun b o a => Nat.lt_of_lt_of_le (R.nb b o a) h.size,fun id ob i => zdb H rfl (fun _ => rfl) (fun b a _ => ⟨h.block b a,rfl,fun _ c => c⟩) (R.ob id ob i)⟩
end Go.A
namespace Go.A
def zma : Nat → Option Entry:=fun _ => none
theorem zr2 {P : Program} (n : Nat) : zhU P (zg2 zma (zae zma n)):=fun _ _ _ _ _ h => by simp [zg2,zma] at h
structure TwoOk (P : Program) (CD : Draws) (κ : List Tmp) (gf : Func) (fn1 fn2 : Fun) (c0 c1 c2 : Code) (i0 i1 : Nat) (r0 : Array Go.Oper) (o1 o2 : Go.Oper) (ga gb : Go.Code) (t3 t4 ty ty' ty'' : Nat) : Prop where
 body : gf.body = some (.seq (.region i0 r0 false) (.seq (.seq (.region i1 #[o1,o2] false) (.cond (.tmp t4) ga .skip)) gb))
 b1 : fn1.body = .seq c0 c1
 b2 : fn2.body = .seq c0 c2
 k0 : zw P CD κ gf.ntmps (.region i0 r0 false) c0 = true
 k1 : zw P CD κ gf.ntmps ga c1 = true
 k2 : zw P CD κ gf.ntmps gb c2 = true
 e1 : o1.guard = none ∧ o1.dst = some t3 ∧ o1.op = .move (.tmp 0)
 e2 : o2.guard = none ∧ o2.dst = some t4 ∧ o2.op = .binOp .eql ty (.tmp t3) (.const (.slice none 0 0)) ty'
 ne : t3 ≠ t4
 f3 : κ.contains t3 = false ∧ t3 < gf.ntmps
 f4 : κ.contains t4 = false ∧ t4 < gf.ntmps
 arg : κ[0]? = some 0
 ty : P.underlying ty = some (.slice ty'')
 nd : zk2 κ = true
 all : κ.all (fun t => decide (t < gf.ntmps)) = true
 same : fn1.np = fn2.np ∧ fn1.nslots = fn2.nslots ∧ fn1.keep = fn2.keep
 len : κ.length = fn2.nslots
 np : fn2.np ≤ fn2.nslots
 np2 : fn2.np ≤ gf.ntmps
 hd : κ.take fn2.np = yq fn2.np
 q1 : zk1 P κ gf.results.toList fn1.results = true
 q2 : zk1 P κ gf.results.toList fn2.results = true
section
variable {P : Program} {CD : Draws} {κ : List Tmp}
theorem zB6 (hD : DrawOk P CD) {f : Nat} {gf : Func} {fn1 fn2 : Fun} {c0 c1 c2 : Code} {i0 i1 : Nat} {r0 : Array Go.Oper} {U o2 : Go.Oper} {ga X : Go.Code} {t3 t4 ty N j : Nat} (Q : P.funcs[f]? = some gf) (T : TwoOk P CD κ gf fn1 fn2 c0 c1 c2 i0 i1 r0 U o2 ga X t3 t4 ty N j)
  {xs : List (List Fz)} {σ : zd} {v : V} {σ' : zd} {n0 n2 : Nat} {s0 s2 : St} {e2 : Ex} (Y : zae zma n0 c0 (enter fn2 [vsl xs] σ) = some (.normal,s0)) (M : s0.env.getD 0 vun = vsl xs) (Z : zae zma n2 c2 s0 = some (e2,s2)) (l2 : leave fn2.raw fn2.results (e2,s2) = some (v,σ'))
  (h1 : xs = [] → ∃ n1 s1,zae zma n1 c1 s0 = some (.ret,s1) ∧ leave fn1.raw fn1.results (.ret,s1) = some (v,σ')) (K : fn2.np = 1) {g : G} {w : World} {us : List Value} (R0 : Rel g w σ) (hv : zW g w σ [vsl xs] us) :
  Calls P f us.toArray w fun e w' => ∃ u g',e = .returned u ∧ zh g' w' σ' v u ∧ Rel g' w' σ' ∧ Ext g w σ g' w' σ':=by
 have hA:=znc (gf:=gf) (fn:=fn2) R0 hv T.nd T.all T.len T.np T.np2 T.hd (by rw [K]; rfl);have a:=fun n => zqB (P:=P) (CD:=CD) (T:=zma) (g0:=g.clean σ.length) (w0:=w) (σ0:=σ) (κ:=κ) (nt:=gf.ntmps) hD (zhc g σ.length) n fun m _ => zr2 m;have q:=zei zma n0 _ _ _ _ Y
 have k : ∀ (fn : Fun) (e : Ex) (s : St),zk1 P κ gf.results.toList fn.results = true → leave fn.raw fn.results (e,s) = some (v,σ') → s.lim = (enter fn2 [vsl xs] σ).lim → ∀ x t w',zHc (g.clean σ.length) w σ κ gf.ntmps e s x t w' →
   bodyPost P gf (fun e w' => ∃ u g',e = .returned u ∧ zh g' w' σ' v u ∧ Rel g' w' σ' ∧ Ext g w σ g' w' σ') x t w' ∧ x = zm5 e:=fun fn e s L d A x t w' p => by
  obtain ⟨rfl,g',A'⟩:=p;obtain ⟨q1,q2,u,q3,J,q4,q5,W⟩:=znr (fn:=fn) (gf:=gf) (zhc g σ.length) (by rw [A]; exact Nat.le_add_right _ _) L d A'
  have i : t.defers = [] ∧ ∃ v1,(results gf t.tmps).run P w' = .ok v1 w' ∧ ∃ u g',(Ending.returned v1) = .returned u ∧ zh g' w' σ' v u ∧ Rel g' w' σ' ∧ Ext g w σ g' w' σ' :=
   ⟨q2,u,q3,u,G.under g w J,rfl,zgJ (g:=J) (g':=G.under g w J) rfl rfl rfl _ _ q4,zq3 W q5,zqX W⟩
  rcases q1 with rfl | rfl
  ·exact ⟨i,rfl⟩
  ·exact ⟨i,rfl⟩
 refine calls_of_wp Q T.body (wp_seq (wp_mono ((a n0).1 _ c0 _ .normal s0 T.k0 Y _ _ _ (yd _) hA) fun x a1 B p => ?_));obtain ⟨rfl,g1,z⟩:=p
 show Exit.then _ _ .normal a1 B
 simp only [Exit.then];have l:=z.fr.size;have hu:=z.fr.env 0 0 T.arg;simp only [M] at hu;simp only [vsl,zh,zK,rep] at hu;obtain ⟨ad,c,sz,hu,_,_,r⟩:=hu;refine wp_seq (wp_seq (zem ?_));refine zeN (o:=U) rfl T.e1.1 T.e1.2.1 T.f3 (zlb (.inr T.e1.2.2) hu) fun a2 C => ?_;refine zeN (o:=o2) (u:=.bool ad.isNone) (w':=B) rfl T.e2.1 T.e2.2.1 T.f4 ?_ fun a3 H => ?_
 ·unfold execOp
  simp only [T.e2.2.2,zgH,C.val l,Act.eval];simp [eqGuard,Lib.run_eql_slice_nil B ty j ad xs.length c 0 0 T.ty]
 show Exit.then _ _ .normal a3 B
 simp only [Exit.then];have S : At' (g.clean σ.length) w σ κ gf.ntmps g1 B s0 a3:=⟨z.ext,z.rel,H.fr (C.fr z.fr)⟩;have hle : σ.length ≤ s0.base:=by rw [q.1]; exact yd _
 cases ad with
 | none =>
   have R : xs = []:=by
    rcases r with h | ⟨b,o,h,_⟩
    ·exact h
    ·cases h
   obtain ⟨n1,s1,y,O⟩:=h1 R;have E:=zei zma n1 _ _ _ _ y;refine wp_cond_true (H.val (C.size l)) (wp_mono ((a n1).1 ga c1 s0 .ret s1 T.k1 y _ _ _ hle S) fun x a4 I p => ?_);obtain ⟨k1,k2⟩:=k fn1 .ret s1 T.q1 O (by rw [E.2,q.2]) x a4 I p;subst k2;simp only [zm5,Exit.then];exact k1
 | some ad =>
   have D:=zei zma n2 _ _ _ _ Z;refine wp_cond_false (H.val (C.size l)) (wp_skip ?_);simp only [Exit.then];exact wp_mono ((a n2).1 X c2 s0 e2 s2 T.k2 Z _ _ _ hle S) fun x a4 I p => (k fn2 e2 s2 T.q2 l2 (by rw [D.2,q.2]) x a4 I p).1
def zrN (t3 t4 : Nat) (o1 o2 : Go.Oper) : Bool:=o1.guard.isNone && o1.dst == some t3 && o2.guard.isNone && o2.dst == some t4 &&
 (match o1.op with
  | .move (.tmp 0) => true
  | _ => false) && (match o2.op with
  | .binOp .eql _ (.tmp t) (.const (.slice none 0 0)) _ => t == t3
  | _ => false)
def zEW (o : Go.Oper) : Nat × Nat:=match o.op with
 | .binOp _ t _ _ t' => (t,t')
 | _ => (0,0)
theorem zm3 {t3 t4 : Nat} {b a : Go.Oper} (h : zrN t3 t4 b a = true) : (b.guard = none ∧ b.dst = some t3 ∧ b.op = .move (.tmp 0)) ∧ (a.guard = none ∧ a.dst = some t4 ∧ a.op = .binOp .eql (zEW a).1 (.tmp t3) (.const (.slice none 0 0)) (zEW a).2):=by
 unfold zrN at h;simp only [yc,Option.isNone_iff_eq_none,beq_iff_eq] at h;obtain ⟨⟨⟨⟨⟨e,i⟩,f⟩,g⟩,d⟩,c⟩:=h;refine ⟨⟨e,i,?_⟩,f,g,?_⟩
 ·split at d
  ·assumption
  ·cases d
 ·unfold zEW
  split at c
  ·rename_i heq
   rw [heq];simp only [beq_iff_eq] at c;rw [c]
  ·cases c
def zqQ (P : Program) (t : Nat) : Bool:=match P.underlying t with
 | some (.slice _) => true
 | _ => false
def zpM (P : Program) (CD : Draws) (κ : List Tmp) (gf : Func) (fn1 fn2 : Fun) : Bool:=match gf.body,fn1.body,fn2.body with
 | some (.seq (.region i0 r0 false) (.seq (.seq (.region _ ⟨[o1,o2]⟩ false) (.cond (.tmp t4) ga .skip)) gb)),.seq c0 c1,.seq c0' c2 =>
   zw P CD κ gf.ntmps (.region i0 r0 false) c0 && zw P CD κ gf.ntmps (.region i0 r0 false) c0' && zw P CD κ gf.ntmps ga c1 && zw P CD κ gf.ntmps gb c2 && (match o1.dst with
    | some t3 => zrN t3 t4 o1 o2 && t3 != t4 && !κ.contains t3 && decide (t3 < gf.ntmps)
    | none => false) && !κ.contains t4 && decide (t4 < gf.ntmps) && κ[0]? == some 0 && zqQ P (zEW o2).1 && zk2 κ && κ.all (fun t => decide (t < gf.ntmps)) && κ.length == fn2.nslots && decide (fn2.np ≤ fn2.nslots) && decide (fn2.np ≤ gf.ntmps) && (κ.take fn2.np == yq fn2.np) && zk1 P κ gf.results.toList fn1.results && zk1 P κ gf.results.toList fn2.results
 | _,_,_ => false
def zoR : Code:=.reg [⟨.slot 1,.mv (.c (.one (.f (.sl [])))),none⟩]
def zrE : Code:=.seq (.reg [⟨.slot 1,.mv (.c (.one (.f (.sl [])))),none⟩]) (.ret [false,true])
def zrl (sz : Nat) : Code:=.seq (.reg [⟨.loc,.bsl .tk sz [] [],none⟩,⟨.loc,.mv (.s 0),none⟩,⟨.loc,.app sz (.l 1) (.l 0),none⟩,⟨.slot 1,.mv (.l 0),none⟩]) (.ret [false,true])
def zh2 : Fun:=⟨1,2,0,false,[(1,none)],.seq zoR zrE⟩
def zgC (sz : Nat) : Fun:=⟨1,2,0,false,[(1,none)],.seq zoR (zrl sz)⟩
def zqD (sz : Nat) : List V → zd → Option (V × zd)
 | [.one (.f (.sl xs))],[] => if zt9 sz xs = true ∧ xs.length ≤ LIM then some (.one (.f (.sl xs)),[]) else none
 | _,_ => none
theorem zDn (hD : DrawOk P CD) {f : Nat} {gf : Func} {sz : Nat} (hgf : P.funcs[f]? = some gf) (hname : (gf.name == "runtime.NumGoroutine") = false) (hc : zpM P CD [0, 2] gf zh2 (zgC sz) = true) (args : List V) (σ : zd) (v : V) (σ' : zd) (h : zqD sz args σ = some (v, σ')) :
  Enters P f ∧ ∀ g w us,Rel g w σ → zW g w σ args us → Calls P f us.toArray w fun e w' => ∃ u g',e = .returned u ∧ zh g' w' σ' v u ∧ Rel g' w' σ' ∧ Ext g w σ g' w' σ':=by
 unfold zqD at h
 split at h
 ·rename_i xs
  split at h
  ·rename_i hok
   injection h with h
   simp only [Prod.mk.injEq] at h
   obtain ⟨rfl,rfl⟩:=h
   unfold zpM at hc
   split at hc
   ·rename_i i0 r0 i1 o1 o2 t4 ga gb c0 c1 c0' c2 hb hb1 hb2
    simp only [yc,beq_iff_eq,bne_iff_ne,ne_eq,ye,decide_eq_true_eq] at hc
    obtain ⟨⟨⟨⟨⟨⟨⟨⟨⟨⟨⟨⟨⟨⟨⟨⟨h1,h1'⟩,h2⟩,h3⟩,h4⟩,h5⟩,h6⟩,h7⟩,h8⟩,h9⟩,h10⟩,h11⟩,h12⟩,h13⟩,h14⟩,h15⟩,h16⟩:=hc
    split at h4
    ·rename_i t3 ht3
     simp only [yc,bne_iff_ne,ne_eq,ye,decide_eq_true_eq] at h4
     obtain ⟨⟨⟨h4,hne⟩,hk3⟩,hl3⟩:=h4
     obtain ⟨k1,k2⟩:=zm3 h4
     injection hb1 with e1 e2
     injection hb2 with e3 e4
     subst e1 e2 e3 e4
     refine ⟨⟨gf,_,hgf,hname,hb⟩,fun g w us R0 hv => ?_⟩
     obtain ⟨te,hte⟩ : ∃ te,P.underlying (zEW o2).1 = some (.slice te):=by
      unfold zqQ at h8
      split at h8
      ·rename_i te hte; exact ⟨te,hte⟩
      ·cases h8
     have T : TwoOk P CD [0,2] gf zh2 (zgC sz) zoR zrE (zrl sz) i0 i1 r0 o1 o2 ga gb t3 t4 (zEW o2).1 (zEW o2).2 te :=
      ⟨hb,rfl,rfl,h1,h2,h3,k1,k2,hne,⟨hk3,hl3⟩,⟨h5,h6⟩,h7,hte,h9,h10,⟨rfl,rfl,rfl⟩,h11,h12,h13,h14,h15,h16⟩
     refine zB6 (n0:=1) (n2:=2) (e2:=.ret) (s0:=⟨[vsl xs,vsl []],[],0,0⟩) (s2:=⟨[vun,.one (.ap 0 0 xs)],[.tok sz [xs.length]],0,0⟩) hD hgf T ?_ rfl ?_ ?_ (fun hxs => ⟨2,⟨[vun,vsl []],[],0,0⟩,?_,?_⟩) rfl R0 hv
     ·simp [zae,zoR,steps,step,zbM,R.get,R.put,zDd,enter,zgC,vsl,vun]
     ·simp [zae,zrl,steps,step,zbM,R.get,R.put,zDd,vsl,vun,zqj,zyU,zbo,zDh,R.alloc,elems,hok.1,zHs,zpK,Ob.front,Ob.setFront,R.setOb,hok.2,zsm,clr,St.mkSt]
     ·simp [leave,zgC,outs,zwE,zCO,zHp,zhN,vsl,zof,zn1,V.lts,V.lt,C.lt,Obs.lt,zHj,vun]
     ·simp [zae,zrE,steps,step,zbM,R.get,R.put,zDd,vsl,vun,zsm,clr,St.mkSt]
     ·subst hxs
      simp [leave,zh2,outs,zwE,zCO,zHp,zhN,vsl,zof,zn1,V.lts,V.lt,C.lt,Obs.lt,zHj,vun]
    ·cases h4
   ·cases hc
  ·cases h
 ·cases h
end
end Go.A

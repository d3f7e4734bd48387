/- A part of the proof of AffineFinds. Conditions: none. -/
import Derived.Test.YtmkncmffaaninaaGreatXBH
import Derived.Test.YtmkncmffaaninaaGreatXBE
import Derived.Test.YtmkncmffaaninaaGreatXBA
import Derived.Test.YtmkncmffaaninaaGreatXAW
set_option linter.all false
open Bool renaming and_eq_true → ya,not_eq_true' → yA
open List renaming mem_append → yb,getD_eq_getElem?_getD → yc,mem_cons_of_mem → yd,all_eq_true → ye,mem_cons → yf,mem_cons_self → yg,getElem?_cons_zero → yh,map_cons → yi,getElem?_eq_getElem → yj,length_cons → yk,mem_singleton → yl,mem_of_getElem? → ym,mem_map → yo,mem_iff_getElem → yp,find?_cons → yq,getElem?_eq_some_iff → yr,nodup_cons → ys,getElem_mem → yu,mem_range → yv,range → yw,all_cons → yx,getElem_take → yy,nodup_append → yz,length_take → yC,all_map → yD,mem_filter → yE,length_map → yF,map → yH
open Nat renaming zero_add → yn
open Int renaming toNat_natCast → yt,natCast_zero → yB,ofNat → yG
namespace AC
open Go Go.A Go.A.Lex
open Dm
theorem zG2 {f : PFunc} (hf : okF f) (h : zaM f = true) : ∃ (t : List Int) (O : Int → Prop) (pos : Int → Nat),TreeOf (zo f) ((0 : Nat) : Int) O pos t ∧ zm6 f (t.set 0 (-1)):=by
 have hm:=zfW h;obtain ⟨j,n64,g⟩:=ze3 hm;obtain ⟨o,o0,tail,t,O,pos,d,e,b,k,c,Q,i⟩:=zGM hm (root:=0) (by omega);refine ⟨t,O,pos,Q,?_,fun _ => ?_⟩
 ·rw [zl3 Q]; omega
 ·have a : zDb (zo f) (zZ (zo f)) = true:=by unfold zDb; rw [hm]; simp
  exact zAM (zo f) (zZ (zo f)) (ziW hf) a 0 (by omega) 200 (by omega) o d o0 tail e b (by omega) 200 5000 t c
theorem zsX (f : PFunc) (hf : okF f) : ∃ tree,zm6 f tree ∧ (zaM f = true → ∃ (t : List Int) (O : Int → Prop) (pos : Int → Nat),TreeOf (zo f) ((0 : Nat) : Int) O pos t ∧ tree = t.set 0 (-1)):=by
 cases c : zaM f
 ·exact ⟨[],⟨by simp,fun h => by rw [c] at h; cases h⟩,fun h => by cases h⟩
 ·obtain ⟨t,O,pos,Q,a⟩:=zG2 hf c
  exact ⟨_,a,fun _ => ⟨t,O,pos,Q,rfl⟩⟩
noncomputable def zDk (f : PFunc) : List Int:=open Classical in if h : okF f then (zsX f h).choose else []
theorem zwQ {f : PFunc} (hf : okF f) : zm6 f (zDk f):=by
 unfold zDk;rw [dif_pos hf];exact (zsX f hf).choose_spec.1
theorem zGa {f : PFunc} (hf : okF f) (h : zaM f = true) : ∃ (t : List Int) (O : Int → Prop) (pos : Int → Nat),TreeOf (zo f) ((0 : Nat) : Int) O pos t ∧ zDk f = t.set 0 (-1):=by
 unfold zDk;rw [dif_pos hf];exact (zsX f hf).choose_spec.2 h
section
variable {f : PFunc} (hf : okF f) (hg : zaM f = true) {t : List Int} {O : Int → Prop} {pos : Int → Nat} (Q : TreeOf (zo f) ((0 : Nat) : Int) O pos t)
include hg Q
theorem zlZ : ∀ (l : List PBlock) (i : Nat),zeH (zZ (zo f)) (t.set 0 (-1)) i l = zbI (zZ (zo f)) (zdO (zo f) 0 (-1)) i l
 | [],_ => rfl
 | b :: l,i => by
   rw [zeH,zbI,zlZ l (i + 1),zsy,zld]
   congr 1
   have e : zlU (t.set 0 (-1)) (i : Int) (i : Int) = (zdO (zo f) 0 (-1)).getD i false:=by
    rw [Bool.eq_iff_iff];have c:=zEH Q (i : Int) (i : Int);have a:=zwU (zfW hg) Q i;rw [c];exact ⟨fun h => a.2 h.1,fun h => ⟨a.1 h,a.1 h,zDR _⟩⟩
   rw [e,Bool.and_comm (b.phis.all _)]
theorem zyu : zh0 f (t.set 0 (-1)) = zg0 f:=by
 unfold zh0 zg0;rw [zlZ hg Q]
end
theorem zli (ask : Use → Int) (c : Int) (b : c ≠ 0) : ∀ l : List Use,(∀ u ∈ l,ask u = 0 ∨ ask u = c) → zah ask l = if l.all (fun u => decide (ask u = 0)) = true then 0 else c
 | [],_ => rfl
 | u :: l,h => by
   have e:=zli ask c b l fun x d => h x (yd _ d);rw [zah,yx];rcases h u yg with a | a
   ·rw [if_pos a,e,a]
    simp
   ·rw [if_neg (by rw [a]; exact b),a]
    simp [b]
theorem zob {l : List Use} {p q : Use → Bool} (h : ∀ u ∈ l,p u = q u) : l.all p = l.all q:=by
 induction l with
 | nil => rfl
 | cons x l ih => rw [yx,yx,h x yg,ih fun y a => h y (yd _ a)]
theorem zia (defs : List Use) (v : Int) : ∀ (k : Nat),(zl v k defs < 0 ↔ (lk defs v).isNone = true) ∧ (0 ≤ zl v k defs → defs[(zl v k defs - k).toNat]? = defs.find? (fun u => decide (u.v = v))):=by
 induction defs with
 | nil => intro k; simp [zl,lk]
 | cons u r ih =>
   intro k;obtain ⟨a,b⟩:=ih (k + 1);rw [zl]
   by_cases c : u.v = v
   ·rw [if_pos c]
    constructor
    ·constructor
     ·intro h; omega
     ·intro h
      exact absurd c (zod.1 h u yg)
    ·intro _
     rw [Int.sub_self,yq,decide_eq_true c];rfl
   ·rw [if_neg c]
    have e : lk (u :: r) v = lk r v:=(by unfold lk; rw [yq,decide_eq_false c]);rw [e];refine ⟨a,fun h => ?_⟩;have:=b h;have d:=zjU v r (k + 1) h;rw [yq,decide_eq_false c,← this];rw [show (zl v (k + 1) r - (k : Int)).toNat = (zl v (k + 1) r - ((k + 1 : Nat) : Int)).toNat + 1 by omega,List.getElem?_cons_succ]
theorem zEZ {defs : List Use} {v : Int} {p : PDef} (h : lk defs v = some p) : toP (ziI defs v) = p:=by
 obtain ⟨b,d⟩:=zia defs v 0
 have a : 0 ≤ zl v 0 defs:=by
  by_cases c : zl v 0 defs < 0
  ·have:=b.1 c
   rw [h] at this;cases this
  ·omega
 have:=d a;rw [show zl v 0 defs - ((0 : Nat) : Int) = zl v 0 defs by omega] at this;unfold lk at h
 cases e : defs.find? (fun u => decide (u.v = v)) with
 | none => rw [e] at h; cases h
 | some x =>
   rw [e] at h this;unfold ziI;rw [yc,this];simpa using h
theorem zm3 (p : PPhi) : ∀ (l : List Int) (k : Nat),k + l.length ≤ p.src.length → ∀ u ∈ zM p k l,u.block ∈ p.src ∧ u.at' = 1048576
 | [],_,_ => by simp [zM]
 | v :: l,k,h => by
   simp only [yk] at h;intro u hu;rw [zM] at hu;rcases yf.1 hu with rfl | hu
   ·refine ⟨?_,rfl⟩
    show p.src.getD k 0 ∈ p.src
    rw [yc,yj (by omega)];exact yu _
   ·exact zm3 p l (k + 1) (by omega) u hu
theorem zoX (o : POp) (i at' : Int) : ∀ (l : List (Int × Int)) (k : Nat),∀ u ∈ zW o i at' k l,u.block = i ∧ u.at' = at'
 | [],_ => by simp [zW]
 | s :: l,k => by
   intro u hu;rw [zW] at hu;rcases yf.1 hu with rfl | hu
   ·exact ⟨rfl,rfl⟩
   ·exact zoX o i at' l (k + 1) u hu
theorem zmZ (i : Int) : ∀ (l : List POp) (k : Nat),∀ u ∈ zr i k l,u.block = i ∧ 0 ≤ u.at' ∧ u.at' < ((k + l.length : Nat) : Int)
 | [],_ => by simp [zr]
 | o :: l,k => by
   intro u hu;rw [zr] at hu;rcases yb.1 hu with hu | hu
   ·obtain ⟨a,b⟩:=zoX o i (k : Int) _ 0 u hu
    simp only [yk];exact ⟨a,by omega,by omega⟩
   ·obtain ⟨a,b,c⟩:=zmZ i l (k + 1) u hu
    simp only [yk];exact ⟨a,b,by omega⟩
theorem zmH (pred : List (List Int)) (reach : List Bool) : ∀ (l : List PBlock) (i : Nat),zbI pred reach i l = true → ∀ k b,l[k]? = some b → zld pred reach (i + k) b = true
 | [],_,_ => by simp
 | b :: l,i,h => by
   rw [zbI,ya] at h;intro k c a
   cases k with
   | zero =>
     simp only [yh,Option.some.injEq] at a;subst a;exact h.1
   | succ k =>
     have:=zmH pred reach l (i + 1) h.2 k c (by simpa using a)
     rwa [show i + 1 + k = i + (k + 1) by omega] at this
theorem zl1 (f : PFunc) (P : Int → Prop) : ∀ (l : List PBlock) (k : Nat),(∀ j b,l[j]? = some b → P ((k + j : Nat) : Int) ∧ b.ops.length ≤ 1000 ∧ ∀ p ∈ b.phis,p.args.length = p.src.length ∧ ∀ x ∈ p.src,P x) → ∀ u ∈ zaB f k l,P u.block ∧ (u.at' = 1048576 ∨ (0 ≤ u.at' ∧ u.at' < 1000))
 | [],_,_ => by simp [zaB]
 | b :: l,k,h => by
   intro u hu;obtain ⟨g,m,n⟩:=h 0 b rfl;rw [Nat.add_zero] at g;rw [zaB,zgN] at hu;rcases yb.1 hu with hu | hu
   ·rcases yb.1 hu with hu | hu
    ·unfold zaA at hu
     rw [List.mem_flatMap] at hu;obtain ⟨p,a,hu⟩:=hu;obtain ⟨e1,e2⟩:=n p a;obtain ⟨e,d⟩:=zm3 p p.args 0 (by omega) u hu;exact ⟨e2 _ e,.inl d⟩
    ·rcases yb.1 hu with hu | hu
     ·obtain ⟨e,d,o⟩:=zmZ (k : Int) b.ops 0 u hu
      rw [e];exact ⟨g,.inr ⟨d,by omega⟩⟩
     ·unfold zbK at hu
      split at hu
      ·simp at hu
      ·rw [yl.1 hu]
       exact ⟨g,.inl rfl⟩
   ·exact zl1 f P l (k + 1) (fun j c i => by
    have:=h (j + 1) c (by simpa using i)
    rwa [show k + (j + 1) = k + 1 + j by omega] at this) u hu
theorem zkL (i : Int) : ∀ (l : List POp) (k : Nat),∀ u ∈ zdP i k l,u.block = i ∧ 0 ≤ u.at' ∧ u.at' < ((k + l.length : Nat) : Int)
 | [],_ => by simp [zdP]
 | o :: l,k => by
   intro u hu;rw [zdP] at hu;simp only [yk];split at hu
   ·rcases yf.1 hu with rfl | hu
    ·exact ⟨rfl,by show (0 : Int) ≤ (k : Int); omega,by show (k : Int) < _; omega⟩
    ·obtain ⟨a,b,c⟩:=zkL i l (k + 1) u hu
     exact ⟨a,b,by omega⟩
   ·obtain ⟨a,b,c⟩:=zkL i l (k + 1) u hu
    exact ⟨a,b,by omega⟩
theorem zj3 : ∀ (l : List PBlock) (k : Nat),(∀ b ∈ l,b.ops.length ≤ 1000) → ∀ u ∈ zaa k l,(k : Int) ≤ u.block ∧ u.block < ((k + l.length : Nat) : Int) ∧ u.at' < 1000
 | [],_,_ => by simp [zaa]
 | b :: l,k,h => by
   intro u hu;have g:=h b yg;simp only [yk];rw [zaa] at hu;rcases yb.1 hu with hu | hu
   ·unfold zcZ at hu
    obtain ⟨p,_,rfl⟩:=yo.1 hu;exact ⟨Int.le_refl _,by show (k : Int) < _; omega,by show (-1 : Int) < 1000; omega⟩
   ·rcases yb.1 hu with hu | hu
    ·obtain ⟨e,f,a⟩:=zkL (k : Int) b.ops 0 u hu
     exact ⟨by omega,by omega,by omega⟩
    ·obtain ⟨e,f,a⟩:=zj3 l (k + 1) (fun c d => h c (yd _ d)) u hu
     exact ⟨by omega,by omega,a⟩
theorem zlb : ∀ (l : List Int) (k : Nat),∀ u ∈ zaJ k l,u.block = -1 ∧ u.at' = 0
 | [],_ => by simp [zaJ]
 | b :: l,k => by
   intro u hu;rw [zaJ] at hu;rcases yf.1 hu with rfl | hu
   ·exact ⟨rfl,rfl⟩
   ·exact zlb l (k + 1) u hu
theorem zpO {f : PFunc} (h : zh5 f ≤ 512) : ∀ b ∈ f.blocks,b.ops.length ≤ 1000:=fun b c => by
 have key : ∀ l : List PBlock,b ∈ l → b.phis.length + b.ops.length ≤ (l.map fun b => b.phis.length + b.ops.length).sum:=by
  intro l
  induction l with
  | nil => intro h; cases h
  | cons a l ih =>
    intro h;simp only [yi,List.sum_cons];rcases yf.1 h with rfl | h
    ·omega
    ·have:=ih h; omega
 have:=key _ c;unfold zh5 at h;omega
theorem zBs {f : PFunc} (hf : okF f) (level : Int) (hm : zmU f = true) : zh4 f level (zDk f) = zaz f level ∨ level < 0 ∨ 2 < level:=by
 by_cases B : level < 0 ∨ 2 < level
 ·exact .inr B
 left;unfold zh4 zaz;have r : ¬ zmU f = false:=by simp [hm]
 have tf : ¬ (true = false):=by simp
 have ff : false = false:=rfl;rw [if_neg B,if_neg r,if_neg r];cases hg : zaM f
 ·have e1 : zh0 f (zDk f) = false:=by unfold zh0; rw [hg]; rfl
  have e2 : zg0 f = false:=by unfold zg0; rw [hg]; rfl
  rw [if_pos e1,if_pos e2]
 obtain ⟨t,O,pos,Q,I⟩:=zGa hf hg;have m:=zfW hg;rw [I,zyu hg Q];cases J : zg0 f
 ·rw [if_pos ff,if_pos ff]
 rw [if_neg tf,if_neg tf];cases ht : zfY f level
 ·rw [if_pos ff,if_pos ff]
 rw [if_neg tf,if_neg tf];obtain ⟨n1,n64,U,A,nb⟩:=zfU hm;obtain ⟨d1,d2⟩:=zxa (f:=f) U
 cases hd : zmt f with
 | mk D q =>
   rw [hd] at d1 d2
   cases q with
   | some x =>
     have : zfE (zt f) 0 (zt f) = false:=d1.symm;simp only;rw [if_pos this]
   | none =>
     have w : zfE (zt f) 0 (zt f) = true:=d1.symm;have R:=d2 w;simp only at R ⊢;rw [w,if_neg tf]
     have s : zbI (zZ (zo f)) (zdO (zo f) 0 (-1)) 0 f.blocks = true:=by
      unfold zg0 at J;rw [ya] at J;exact J.2
     have l : ∀ i : Nat,i < f.blocks.length → O (i : Int):=fun i N => by
      have:=zmH _ _ _ _ s i _ (yj N);unfold zld at this;rw [ya,yn] at this;exact (zwU m Q i).1 this.1
     have V:=(ze3 m).2.2;have Z : (zo f).length = f.blocks.length:=by simp [zo]
     have hU : ∀ u ∈ zfj f,O u.block ∧ (u.at' = 1048576 ∨ (0 ≤ u.at' ∧ u.at' < 1000)):=by
      refine zl1 f O f.blocks 0 fun j b H => ?_;have hj:=(yr.1 H).1;have g:=zmH _ _ _ _ s j b H;rw [yn] at g ⊢;unfold zld at g;simp only [ya,ye] at g;refine ⟨l j hj,zpO A b (ym H),fun p n => ?_⟩;have C:=g.2.2 p n;unfold ziz at C;simp only [ya,decide_eq_true_eq] at C;refine ⟨C.2,fun x S => ?_⟩;rw [C.1] at S;have:=(zm9 V (x:=(j : Int)) ⟨by omega,by omega⟩ x).1 (by rw [yt]; exact S);obtain ⟨y,G⟩ : ∃ y : Nat,(y : Int) = x:=⟨x.toNat,by have:=this.1; omega⟩;rw [← G];exact l y (by have:=this.2.1; omega)
     have M : ∀ d ∈ zt f,(d.block < 0 ∨ O d.block) ∧ d.at' < 1000:=fun d a => by
      unfold zt at a;rcases yb.1 a with a | a
      ·obtain ⟨e1,e2⟩:=zlb _ _ d a
       exact ⟨.inl (by omega),by omega⟩
      ·obtain ⟨e1,e2,e3⟩:=zj3 f.blocks 0 (zpO A) d a
       refine ⟨.inr ?_,e3⟩;obtain ⟨y,G⟩ : ∃ y : Nat,(y : Int) = d.block:=⟨d.block.toNat,by omega⟩;rw [← G];exact l y (by omega)
     have f1:=zli (zmc D) 7 (by omega) (zfj f) fun u _ => by unfold zmc; split <;> simp
     have a1 : (zfj f).all (fun u => decide (zmc D u = 0)) = (zen f).all (zkO (zt f)):=by
      unfold zen;rw [yD];refine zob fun u _ => ?_
      show decide (zmc D u = 0) = zkO (zt f) (zac u)
      have e:=(zia (zt f) u.v 0).1;unfold zmc zkO;rw [R u.v]
      show _ = !decide (zl u.v 0 (zt f) < 0)
      by_cases c : zl u.v 0 (zt f) < 0
      ·rw [if_pos (e.1 c),decide_eq_true c]; rfl
      ·rw [if_neg (fun h => c (e.2 h)),decide_eq_false c]; rfl
     rw [f1,a1];cases b1 : (zen f).all (zkO (zt f))
     ·simp
     have k : ∀ u ∈ zfj f,∃ p,lk (zt f) u.v = some p:=fun u hu => by
      have:=ye.1 b1 (zac u) (List.mem_map_of_mem hu);unfold zkO at this;have e:=(zia (zt f) u.v 0).1
      cases h : lk (zt f) u.v with
      | some p => exact ⟨p,rfl⟩
      | none =>
        have X:=e.2 (by rw [h]; rfl);have : (!decide (zl u.v 0 (zt f) < 0)) = true:=this;rw [decide_eq_true X] at this;cases this
     have o : ∀ u ∈ zfj f,zmo D u.v = toP (ziI (zt f) u.v):=fun u hu => by
      obtain ⟨p,n⟩:=k u hu;unfold zmo;rw [R u.v,n,zEZ n];rfl
     have f2:=zli (zcQ D) 6 (by omega) (zfj f) fun u _ => by unfold zcQ; split <;> simp
     have a2 : (zfj f).all (fun u => decide (zcQ D u = 0)) = (zen f).all (sameShape (zt f)):=by
      unfold zen;rw [yD];refine zob fun u hu => ?_
      show decide (zcQ D u = 0) = sameShape (zt f) (zac u)
      unfold zcQ sameShape;rw [o u hu]
      show decide ((if (ziI (zt f) u.v).shape = u.shape then (0 : Int) else 6) = 0) = decide ((ziI (zt f) u.v).shape = u.shape)
      by_cases c : (ziI (zt f) u.v).shape = u.shape
      ·rw [if_pos c,decide_eq_true c]; rfl
      ·rw [if_neg c,decide_eq_false c]; rfl
     rw [f2,a2];cases b2 : (zen f).all (sameShape (zt f))
     ·simp
     have f3:=zli (zbd D (t.set 0 (-1))) 7 (by omega) (zfj f) fun u _ => by
      unfold zbd;simp only;split
      ·simp
      ·split <;> simp
     have a3 : (zfj f).all (fun u => decide (zbd D (t.set 0 (-1)) u = 0)) = (zen f).all (zg1 (zt f) (zdl (zo f) 0)):=by
      have e7 : zdl (zo f) 0 = t.set 0 (-1):=zC5 m Q;rw [e7];unfold zen;rw [yD];refine zob fun u hu => ?_
      show decide (zbd D (t.set 0 (-1)) u = 0) = zg1 (zt f) (t.set 0 (-1)) (zac u)
      obtain ⟨W,ua⟩:=hU u hu;unfold zbd zg1;rw [o u hu];have E : (zac u).v = u.v:=rfl;have K : (zac u).block = u.block:=rfl;rw [E,K];obtain ⟨d,a⟩ : ∃ d,d = ziI (zt f) u.v:=⟨_,rfl⟩;rw [← a]
      have L : d ∈ zt f:=by
       obtain ⟨p,n⟩:=k u hu;have N:=zia (zt f) u.v 0
       have Y : 0 ≤ zl u.v 0 (zt f):=by
        by_cases c : zl u.v 0 (zt f) < 0
        ·have:=N.1.1 c
         rw [n] at this;cases this
        ·omega
       have aA:=zjU u.v (zt f) 0 Y;rw [a];unfold ziI;rw [yc,yj (by omega)];exact yu _
      obtain ⟨db,da⟩:=M d L
      show decide ((if d.block < 0 then (0 : Int) else if (d.block = u.block ∧ d.at' < u.at') ∨ (d.block ≠ u.block ∧ zlU (t.set 0 (-1)) d.block u.block = true) then 0 else 7) = 0) = _
      by_cases c1 : d.block < 0
      ·rw [if_pos c1,decide_eq_true c1]; rfl
      ·rw [if_neg c1,decide_eq_false c1]
       have dO:=db.resolve_left c1;have z:=zBb Q dO W
       by_cases c2 : d.block = u.block
       ·have P : (d.at' < u.at') ↔ (d.at' < (zac u).at'):=by
         show _ ↔ d.at' < (if u.at' = 1048576 then 1000 else u.at')
         split <;> omega
        by_cases c3 : d.at' < u.at'
        ·rw [if_pos (.inl ⟨c2,c3⟩),decide_eq_true c2,decide_eq_true (P.1 c3)]; rfl
        ·rw [if_neg (fun h => h.elim (fun h => c3 h.2) (fun h => h.1 c2)),decide_eq_true c2,decide_eq_false (fun h => c3 (P.2 h))]; rfl
       ·rw [decide_eq_false c2]
        by_cases c4 : zlU (t.set 0 (-1)) d.block u.block = true
        ·rw [if_pos (.inr ⟨c2,c4⟩),decide_eq_true (z.2 c4)]; rfl
        ·rw [if_neg (fun h => h.elim (fun h => c2 h.1) (fun h => c4 h.2)),decide_eq_false (fun h => c4 (z.1 h))]; rfl
     rw [f3,a3];cases b3 : (zen f).all (zg1 (zt f) (zdl (zo f) 0)) <;> simp
theorem zuY {f : PFunc} (hf : okF f) (level : Int) : zx1 f level (zDk f) = zaz f level:=by
 unfold zx1
 by_cases a : level < 0 ∨ 2 < level
 ·rw [if_pos a]
  unfold zaz;rw [if_pos a]
 ·rw [if_neg a]
  cases hm : zmU f
  ·unfold zh4 zaz
   rw [if_neg a,if_pos hm,if_pos hm]
  ·exact (zBs hf level hm).resolve_right a
end AC
namespace AC
open Go Go.A
def op0 : POp:=⟨0,0,0,0,[],0⟩
def onB (ops : List POp) (a k : Nat) : Bool:=decide (k < a) && ((decide ((ops.getD k op0).dst ≠ 0) && decide ((ops.getD k op0).dst ∈ (ops.getD a op0).args)) || (!pure (ops.getD k op0).kind && !pure (ops.getD a op0).kind))
def zyP (ops : List POp) (a : Nat) : List Int:=((yw a).filter (onB ops a)).map yG
theorem zBS {ops : List POp} {a : Nat} {x : Int} : x ∈ zyP ops a ↔ ∃ k : Nat,(k : Int) = x ∧ onB ops a k = true:=by
 unfold zyP;rw [yo];constructor
 ·rintro ⟨k,b,rfl⟩
  exact ⟨k,rfl,(yE.1 b).2⟩
 ·rintro ⟨k,rfl,b⟩
  refine ⟨k,yE.2 ⟨?_,b⟩,rfl⟩;unfold onB at b;simp only [ya,decide_eq_true_eq] at b;exact yv.2 b.1
structure OneDef (ops : List POp) : Prop where
 pos : ∀ o ∈ ops,0 ≤ o.dst
 one : ∀ i j (hi : i < ops.length) (hj : j < ops.length),0 < ops[i].dst → ops[i].dst = ops[j].dst → i = j
def ints (n : Nat) : List Int:=(yw n).map yG
theorem zxE {n : Nat} {x : Int} : x ∈ ints n ↔ 0 ≤ x ∧ x < (n : Int):=by
 unfold ints;rw [yo];constructor
 ·rintro ⟨k,a,rfl⟩
  have:=yv.1 a;exact ⟨by show (0 : Int) ≤ (k : Int); omega,by show (k : Int) < _; omega⟩
 ·rintro ⟨b,c⟩
  exact ⟨x.toNat,yv.2 (by omega),by show (x.toNat : Int) = x; omega⟩
theorem zDO (n : Nat) : (ints n).length = n:=by simp [ints]
theorem zyy (n : Nat) : (ints n).Nodup:=by
 unfold ints;refine List.Pairwise.map (R:=(· ≠ ·)) _ (fun x y h e => h ?_) List.nodup_range;exact Int.ofNat.inj e
theorem zBu (n : Nat) : ints (n + 1) = ints n ++ [(n : Int)]:=by simp [ints,List.range_succ]
theorem zqj : ∀ (n : Nat) (l : List Int),l.length = n → (∀ i : Nat,i < n → (i : Int) ∈ l) → l.Perm (ints n)
 | 0,l,h,_ => by
   rw [List.eq_nil_of_length_eq_zero h];exact List.Perm.refl _
 | n + 1,l,h,hm => by
   have a:=hm n (Nat.lt_succ_self n);have p:=List.perm_cons_erase a;have b : (l.erase (n : Int)).length = n:=(by rw [List.length_erase_of_mem a]; omega);have c:=zqj n (l.erase (n : Int)) b fun i d => (List.mem_erase_of_ne (by omega)).2 (hm i (by omega));rw [zBu];exact p.trans ((List.Perm.cons _ c).trans (List.perm_append_singleton _ _).symm)
theorem zsL {n : Nat} {l : List Int} (h : l.length = n) (hd : l.Nodup) (b : ∀ x ∈ l,0 ≤ x ∧ x < (n : Int)) : l.Perm (ints n):=by
 refine zqj n l h fun i d => ?_;refine Classical.byContradiction fun c => ?_
 have:=zjf (l:=(i : Int) :: l) (n:=n) (ys.2 ⟨c,hd⟩) fun x a => by
  rcases yf.1 a with rfl | a
  ·exact ⟨by omega,by omega⟩
  ·exact b x a
 simp only [yk] at this;omega
theorem zzp {l : List Int} : l.Nodup ↔ ∀ i (a : i < l.length),l[i] ∉ l.take i:=by
 constructor
 ·intro h i a hm
  obtain ⟨j,b,e⟩:=yp.1 hm;simp only [yC] at b;rw [yy] at e;have:=(List.getElem_inj (h₀:=by omega) (h₁:=a) h).1 e;omega
 ·intro h
  unfold List.Nodup;rw [List.pairwise_iff_getElem];intro i j a b c e;refine h j b (yp.2 ⟨i,by simp only [yC]; omega,?_⟩);rw [yy]; exact e
structure LegalP (ops : List POp) (order : List Int) : Prop where
 perm : order.Perm (ints ops.length)
 ahead : ∀ i k (hi : i < order.length) (hk : k < order.length),i < k → onB ops order[i].toNat order[k].toNat = false
theorem LegalP.len {ops : List POp} {order : List Int} (h : LegalP ops order) : order.length = ops.length:=by rw [h.perm.length_eq,zDO]
theorem LegalP.nodup {ops : List POp} {order : List Int} (h : LegalP ops order) : order.Nodup:=h.perm.nodup_iff.2 (zyy _)
theorem LegalP.range {ops : List POp} {order : List Int} (h : LegalP ops order) : ∀ x ∈ order,0 ≤ x ∧ x < (ops.length : Int):=fun x a => zxE.1 (h.perm.mem_iff.1 a)
theorem LegalP.all {ops : List POp} {order : List Int} (h : LegalP ops order) {x : Int} (a : 0 ≤ x) (b : x < (ops.length : Int)) : x ∈ order:=h.perm.mem_iff.2 (zxE.2 ⟨a,b⟩)
theorem getD_map {α : Type} (g : Nat → List α) (n k : Nat) (a : k < n) : ((yw n).map g).getD k [] = g k:=by
 rw [yc,List.getElem?_map,List.getElem?_range a]; rfl
def zwJ (on : List (List Int)) (out : List Int) (a : Nat) : Bool:=!decide ((a : Int) ∈ out) && (on.getD a []).all fun y => decide (y ∈ out)
structure OutIs (ops : List POp) (out : List Int) : Prop where
 nodup : out.Nodup
 range : ∀ x ∈ out,0 ≤ x ∧ x < (ops.length : Int)
 ahead : ∀ i (hi : i < out.length),∀ y ∈ zyP ops out[i].toNat,y ∈ out.take i
theorem OutIs.le {ops : List POp} {out : List Int} (h : OutIs ops out) : out.length ≤ ops.length:=zjf h.nodup h.range
theorem zCg {ops : List POp} {out : List Int} {a : Nat} (b : a < ops.length) : zwJ ((yw ops.length).map (zyP ops)) out a = true ↔ (a : Int) ∉ out ∧ ∀ y ∈ zyP ops a,y ∈ out:=by
 unfold zwJ;rw [getD_map _ _ _ b];simp
theorem OutIs.step {ops : List POp} {out : List Int} (h : OutIs ops out) {a : Nat} (g : a < ops.length) (k : zwJ ((yw ops.length).map (zyP ops)) out a = true) : OutIs ops (out ++ [(a : Int)]):=by
 obtain ⟨j,l⟩:=(zCg g).1 k;refine ⟨?_,fun x b => ?_,fun i f y d => ?_⟩
 ·rw [yz]
  refine ⟨h.nodup,by simp,fun x b y d e => ?_⟩;rw [yl.1 d] at e;exact j (e ▸ b)
 ·rcases yb.1 b with b | b
  ·exact h.range x b
  ·rw [yl.1 b]; omega
 ·by_cases c : i < out.length
  ·rw [List.getElem_append_left c] at d
   have:=h.ahead i c y d;rw [List.take_append_of_le_length (by omega)];exact this
  ·have e : i = out.length:=by simp at f; omega
   subst e;rw [List.getElem_append_right (Nat.le_refl _)] at d;simp only [Nat.sub_self,List.getElem_singleton,yt] at d;rw [List.take_left];exact l y d
theorem OutIs.legal {ops : List POp} {out : List Int} (h : OutIs ops out) (e : out.length = ops.length) : LegalP ops out:=by
 refine ⟨zsL e h.nodup h.range,fun i k b a f => ?_⟩
 cases c : onB ops out[i].toNat out[k].toNat with
 | false => rfl
 | true =>
   exfalso;have d:=(h.range _ (yu a)).1;have hm:=h.ahead i b out[k] (zBS.2 ⟨out[k].toNat,by omega,c⟩);exact zzp.1 h.nodup k a (List.mem_of_mem_take (i:=i) (by rw [List.take_take,Nat.min_eq_left (by omega)]; exact hm))
def zA4 (tree : List Int) (d u : Use) : Prop:=d.block < 0 ∨ (d.block = u.block ∧ d.at' < u.at') ∨ (d.block ≠ u.block ∧ zj2 tree d.block u.block = d.block)
structure RightP (f : PFunc) (level : Int) : Prop where
 lvl : 0 ≤ level ∧ level ≤ 2
 may : zmU f = true
 shape : zg0 f = true
 typed : zfY f level = true
 values : ∀ d ∈ zt f,value d.v = true
 once : ((zt f).map Use.v).Nodup
 uses : ∀ u ∈ zen f,∃ d ∈ zt f,d.v = u.v ∧ d.shape = u.shape ∧ zA4 (zdl (zo f) 0) d u
theorem zm2 : ∀ (l pre : List Use),zha pre l = true ↔ (∀ u ∈ l,value u.v = true) ∧ (l.map Use.v).Nodup ∧ ∀ u ∈ l,∀ x ∈ pre,x.v ≠ u.v
 | [],pre => by simp [zha]
 | u :: r,pre => by
   rw [zha,ya,ya,zm2 r (pre ++ [u]),zod,yi,ys];constructor
   ·rintro ⟨⟨c,g⟩,f,d,h⟩
    refine ⟨fun x a => ?_,⟨fun hm => ?_,d⟩,fun x a y b => ?_⟩
    ·rcases yf.1 a with rfl | a
     ·exact c
     ·exact f x a
    ·obtain ⟨x,a,e⟩:=yo.1 hm
     exact h x a u (by simp) e.symm
    ·rcases yf.1 a with rfl | a
     ·exact g y b
     ·exact h x a y (by simp [b])
   ·rintro ⟨c,⟨g,f⟩,d⟩
    refine ⟨⟨c u yg,d u yg⟩,fun x a => c x (yd _ a),f,fun x a y b => ?_⟩;rcases yb.1 b with b | b
    ·exact d x (yd _ a) y b
    ·rw [yl.1 b]
     exact fun e => g (yo.2 ⟨x,a,e.symm⟩)
theorem zi2 : ∀ {defs : List Use},(defs.map Use.v).Nodup → ∀ {d : Use},d ∈ defs → defs.find? (fun u => decide (u.v = d.v)) = some d
 | [],_,_,hd => by simp at hd
 | x :: r,hn,d,hd => by
   rw [yi,ys] at hn;rw [yq];rcases yf.1 hd with rfl | hd
   ·simp
   ·rw [decide_eq_false (fun e => hn.1 (yo.2 ⟨d,hd,e.symm⟩))]
    exact zi2 hn.2 hd
theorem zjw {defs : List Use} (e : (defs.map Use.v).Nodup) {d : Use} (hd : d ∈ defs) : ¬ zl d.v 0 defs < 0 ∧ ziI defs d.v = d:=by
 obtain ⟨f,g⟩:=zia defs d.v 0;have b:=zi2 e hd
 have a : ¬ zl d.v 0 defs < 0:=fun c => by
  have:=zod.1 (f.1 c) d hd;exact this rfl
 refine ⟨a,?_⟩;have:=g (by omega);rw [show zl d.v 0 defs - ((0 : Nat) : Int) = zl d.v 0 defs by omega,b] at this;unfold ziI;rw [yc,this];rfl
theorem zCT {defs : List Use} {v : Int} (h : ¬ zl v 0 defs < 0) : ∃ d ∈ defs,d.v = v:=by
 obtain ⟨b,_⟩:=zia defs v 0;refine Classical.byContradiction fun a => h (b.2 (zod.2 fun u hu e => a ⟨u,hu,e⟩))
theorem zq4 {defs : List Use} (a : (defs.map Use.v).Nodup) {d : Use} (hd : d ∈ defs) (tree : List Int) (u : Use) (e : d.v = u.v) : zg1 defs tree u = true ↔ zA4 tree d u:=by
 unfold zg1 zA4;rw [← e,(zjw a hd).2];simp only [Bool.or_eq_true,ya,decide_eq_true_eq,yA,Bool.or_eq_false_iff,decide_eq_false_iff_not,Bool.not_eq_false',or_assoc]
theorem zgU {f : PFunc} {level : Int} : zaz f level = 0 ↔ RightP f level:=by
 unfold zaz;constructor
 ·intro h
  split at h
  ·omega
  rename_i c1;split at h
  ·omega
  rename_i c2;split at h
  ·omega
  rename_i c3;split at h
  ·omega
  rename_i c4;split at h
  ·omega
  rename_i c5;split at h
  ·omega
  rename_i c6;split at h
  ·omega
  rename_i c7;split at h
  ·omega
  rename_i c8;simp only [Bool.not_eq_false] at c2 c3 c4 c5 c6 c7 c8;have c:=(zqM (zt f) (zt f) [] rfl).symm.trans c5;obtain ⟨v1,v2,_⟩:=(zm2 _ _).1 c;refine ⟨by omega,c2,c3,c4,v1,v2,fun u hu => ?_⟩;have b:=ye.1 c6 u hu;have a:=ye.1 c7 u hu;have g:=ye.1 c8 u hu;unfold zkO at b;simp only [yA,decide_eq_false_iff_not] at b;obtain ⟨d,hd,e⟩:=zCT b;refine ⟨d,hd,e,?_,(zq4 v2 hd _ u e).1 g⟩;unfold sameShape at a;rw [← e,(zjw v2 hd).2] at a;simpa using a
 ·intro h
  have c : zfE (zt f) 0 (zt f) = true:=(zqM (zt f) (zt f) [] rfl).trans ((zm2 _ _).2 ⟨h.values,h.once,fun _ _ _ j => by simp at j⟩)
  have a6 : (zen f).all (zkO (zt f)) = true:=ye.2 fun u hu => by
   obtain ⟨d,hd,e,_⟩:=h.uses u hu;unfold zkO;rw [← e];simpa using (zjw h.once hd).1
  have a7 : (zen f).all (sameShape (zt f)) = true:=ye.2 fun u hu => by
   obtain ⟨d,hd,e,es,_⟩:=h.uses u hu;unfold sameShape;rw [← e,(zjw h.once hd).2,decide_eq_true_eq];exact es
  have a8 : (zen f).all (zg1 (zt f) (zdl (zo f) 0)) = true:=ye.2 fun u hu => by
   obtain ⟨d,hd,e,_,i⟩:=h.uses u hu;exact (zq4 h.once hd _ u e).2 i
  have k:=h.lvl;rw [if_neg (by omega),if_neg (by simp [h.may]),if_neg (by simp [h.shape]),if_neg (by simp [h.typed]),if_neg (by simp [c]),if_neg (by simp [a6]),if_neg (by simp [a7]),if_neg (by simp [a8])]
theorem zhz {f : PFunc} {level : Int} (h : zfY f level = true) {b : PBlock} (a : b ∈ f.blocks) {o : POp} (c : o ∈ b.ops) : zgh o = true:=by
 unfold zfY at h;simp only [ya,ye] at h;have:=h.2.2 b a;unfold zkV at this;simp only [ya,ye] at this;have:=this.2 o c;unfold ofS at this;simp only [ya] at this;exact this.2.2
theorem zvj {o : POp} (h : zgh o = true) (hd : 0 < o.dst) : 0 < (zad o).1:=by
 unfold zad;unfold zgh at h;simp only [ya] at h;have hm : zgh o = true:=by unfold zgh; simp only [ya]; exact h
 cases c : zfx o.kind
 ·rw [if_neg (by simp [hm])]
  split
  ·decide
  ·have a:=h.1
   unfold zdT at a
   have b : 0 < o.bits:=by
    simp only [ya] at a;have:=zds a.1;omega
   split <;> exact b
 ·rw [c] at h
  simp at h;omega
theorem zGy {o : POp} (h : zgh o = true) : 0 ≤ o.dst:=by
 unfold zgh at h;simp only [ya] at h;have:=h.2.2.1;split at this
 ·simp at this; omega
 ·have:=zno.1 this; omega
theorem RightP.size {f : PFunc} {level : Int} (h : RightP f level) {b : PBlock} (a : b ∈ f.blocks) : b.ops.length ≤ 1000 ∧ ∀ o ∈ b.ops,o.args.length ≤ 64:=by
 have c:=zfU h.may;refine ⟨zpO c.2.2.2.1 b a,?_⟩;exact (zsz (c.2.2.2.2 b a)).2
theorem zmh (i : Int) (u : Use) : ∀ (l : List POp) (k : Nat),u ∈ zr i k l ↔ ∃ j o,l[j]? = some o ∧ u ∈ zkK o i ((k + j : Nat) : Int)
 | [],k => by simp [zr]
 | o :: l,k => by
   rw [zr,yb,zmh i u l (k + 1)];constructor
   ·rintro (h | ⟨j,x,a,b⟩)
    ·exact ⟨0,o,rfl,h⟩
    ·exact ⟨j + 1,x,by simpa using a,by rwa [show k + (j + 1) = k + 1 + j by omega]⟩
   ·rintro ⟨j,x,a,b⟩
    cases j with
    | zero =>
      simp only [yh,Option.some.injEq] at a;subst a;exact .inl b
    | succ j => exact .inr ⟨j,x,by simpa using a,by rwa [show k + 1 + j = k + (j + 1) by omega]⟩
theorem zko (f : PFunc) (u : Use) : ∀ (l : List PBlock) (k : Nat),u ∈ zaB f k l ↔ ∃ j b,l[j]? = some b ∧ u ∈ zgN f ((k + j : Nat) : Int) b
 | [],k => by simp [zaB]
 | b :: l,k => by
   rw [zaB,yb,zko f u l (k + 1)];constructor
   ·rintro (h | ⟨j,x,a,c⟩)
    ·exact ⟨0,b,rfl,h⟩
    ·exact ⟨j + 1,x,by simpa using a,by rwa [show k + (j + 1) = k + 1 + j by omega]⟩
   ·rintro ⟨j,x,a,c⟩
    cases j with
    | zero =>
      simp only [yh,Option.some.injEq] at a;subst a;exact .inl c
    | succ j => exact .inr ⟨j,x,by simpa using a,by rwa [show k + 1 + j = k + (j + 1) by omega]⟩
theorem zlk (i : Int) (d : Use) : ∀ (l : List POp) (k : Nat),d ∈ zdP i k l ↔ ∃ j o,l[j]? = some o ∧ 0 < (zad o).1 ∧ d = ⟨o.dst,zad o,i,((k + j : Nat) : Int)⟩
 | [],k => by simp [zdP]
 | o :: l,k => by
   have f:=zlk i d l (k + 1);rw [zdP];constructor
   ·intro h
    have key : d ∈ zdP i (k + 1) l → ∃ j x,(o :: l)[j]? = some x ∧ 0 < (zad x).1 ∧ d = ⟨x.dst,zad x,i,((k + j : Nat) : Int)⟩:=fun h => by
     obtain ⟨j,x,a,e,b⟩:=f.1 h;exact ⟨j + 1,x,by simpa using a,e,by rw [b,show k + (j + 1) = k + 1 + j by omega]⟩
    split at h
    ·rename_i c
     rcases yf.1 h with h | h
     ·exact ⟨0,o,rfl,c,h⟩
     ·exact key h
    ·exact key h
   ·rintro ⟨j,x,a,e,b⟩
    cases j with
    | zero =>
      simp only [yh,Option.some.injEq] at a;subst a;rw [if_pos e];exact yf.2 (.inl b)
    | succ j =>
      have:=f.2 ⟨j,x,by simpa using a,e,by rw [b,show k + (j + 1) = k + 1 + j by omega]⟩;split
      ·exact yd _ this
      ·exact this
theorem zgL (d : Use) : ∀ (l : List PBlock) (k : Nat),d ∈ zaa k l ↔ ∃ j b,l[j]? = some b ∧ (d ∈ zcZ ((k + j : Nat) : Int) b.phis ∨ d ∈ zdP ((k + j : Nat) : Int) 0 b.ops)
 | [],k => by simp [zaa]
 | b :: l,k => by
   rw [zaa,yb,yb,zgL d l (k + 1)];constructor
   ·rintro (h | h | ⟨j,x,c,a⟩)
    ·exact ⟨0,b,rfl,.inl h⟩
    ·exact ⟨0,b,rfl,.inr h⟩
    ·exact ⟨j + 1,x,by simpa using c,by rwa [show k + (j + 1) = k + 1 + j by omega]⟩
   ·rintro ⟨j,x,c,a⟩
    cases j with
    | zero =>
      simp only [yh,Option.some.injEq] at c;subst c;rcases a with a | a
      ·exact .inl a
      ·exact .inr (.inl a)
    | succ j => exact .inr (.inr ⟨j,x,by simpa using c,by rwa [show k + 1 + j = k + (j + 1) by omega]⟩)
def zJk (ops : List POp) (order : List Int) : List POp:=order.map fun a => ops.getD a.toNat op0
def zIM (b : PBlock) (order : List Int) : PBlock:=⟨b.phis,zJk b.ops order,b.kind,b.arg,b.to⟩
def zJu (f : PFunc) (k : Nat) (order : List Int) : PFunc:=match f.blocks[k]? with
 | some b => ⟨f.params,f.ret,f.blocks.set k (zIM b order)⟩
 | none => f
section
variable {f : PFunc} {k : Nat} {b : PBlock} (hb : f.blocks[k]? = some b) (order : List Int)
include hb
end
section
variable {f : PFunc} {k : Nat} {b : PBlock} (hb : f.blocks[k]? = some b) {order : List Int} (hl : LegalP b.ops order)
include hb hl
end
theorem ziO {o : POp} {i at' : Int} : ∀ (l : List (Int × Int)) (k j : Nat),j < l.length → ∃ s,(⟨o.args.getD (k + j) 0,s,i,at'⟩ : Use) ∈ zW o i at' k l
 | [],_,_,h => by simp at h
 | s :: l,k,j,h => by
   rw [zW]
   cases j with
   | zero => exact ⟨s,yg⟩
   | succ j =>
     obtain ⟨t,a⟩:=ziO (o:=o) (i:=i) (at':=at') l (k + 1) j (by simpa using h);rw [show k + 1 + j = k + (j + 1) by omega] at a;exact ⟨t,yd _ a⟩
theorem zmF {o : POp} (h : zgh o = true) : (zaC o).length = o.args.length:=by
 have a:=h;unfold zgh at a;simp only [ya,decide_eq_true_eq] at a;unfold zaC;rw [if_pos h];exact a.2.2.2.1
theorem zkT {l : List Use} (h : (l.map Use.v).Nodup) {x y : Use} (c : x ∈ l) (d : y ∈ l) (e : x.v = y.v) : x = y:=by
 have a:=zi2 h c;have b:=zi2 h d;rw [e] at a;rw [a] at b;exact Option.some.inj b
theorem RightP.ahead {f : PFunc} {level : Int} (h : RightP f level) {k : Nat} {b : PBlock} (m : f.blocks[k]? = some b) {i j : Nat} {x y : POp} (t : b.ops[i]? = some x) (l : b.ops[j]? = some y) (hd : x.dst ≠ 0) (hm : x.dst ∈ y.args) : i < j:=by
 have c:=ym m;have p : zgh x = true:=zhz h.typed c (ym t);have z : zgh y = true:=zhz h.typed c (ym l);have v:=zvj p (by have:=zGy p; omega);obtain ⟨a,q,ea⟩:=yp.1 hm;obtain ⟨s,r⟩:=ziO (o:=y) (i:=(k : Int)) (at':=(j : Int)) (zaC y) 0 a (by rw [zmF z]; exact q);rw [yn,yc,yj q] at r;have w:=(h.size c).1;have u:=(yr.1 l).1
 have hu : (⟨x.dst,s,(k : Int),(j : Int)⟩ : Use) ∈ zen f:=by
  unfold zen zfj;refine yo.2 ⟨⟨x.dst,s,(k : Int),(j : Int)⟩,(zko _ _ _ 0).2 ⟨k,b,m,?_⟩,?_⟩
  ·rw [yn]
   refine yb.2 (.inr (yb.2 (.inl ((zmh _ _ _ 0).2 ⟨j,y,l,?_⟩))));rw [yn];rw [← ea];exact r
  ·unfold zac
   simp only;rw [if_neg (by omega)]
 obtain ⟨d,n,e1,_,e⟩:=h.uses _ hu
 have g : (⟨x.dst,zad x,(k : Int),(i : Int)⟩ : Use) ∈ zt f:=by
  unfold zt;refine yb.2 (.inr ((zgL _ _ 0).2 ⟨k,b,m,.inr ?_⟩));rw [yn];exact (zlk _ _ _ 0).2 ⟨i,x,t,v,by rw [yn]⟩
 have:=zkT h.once n g e1;subst this;rcases e with e | ⟨_,e⟩ | ⟨e,_⟩
 ·have : (k : Int) < 0:=e
  omega
 ·have : (i : Int) < (j : Int):=e
  omega
 ·exact absurd rfl e
section
variable {ops : List POp} {order : List Int} (hl : LegalP ops order)
include hl
end
end AC
namespace AC
open Go Go.A Go.A.Lex
def vSh (s : Int × Int) : V:=.agg [.f (ei s.1),.f (ei s.2)]
abbrev SMap:=List (Int × (Int × Int))
def zr1 : SMap → ziR → SMap
 | S,[] => S
 | S,e :: r => zr1 (zkc e.1 e.2.shape S) r
theorem zxw : ∀ (D : ziR) (S : SMap),ziv 2 (some 2) 4 (zf5 zgC D) (zf5 vSh S) = some (zf5 vSh (zr1 S D))
 | [],S => rfl
 | e :: r,S => by
   have a : ∀ l : List (Int × PDef),zf5 zgC (e :: l) = (e.1,zgC e.2) :: zf5 zgC l:=fun _ => rfl;rw [a,ziv];have b : (zgC e.2).cells.length = 4 ∧ C.kns (zgC e.2).cells = true:=⟨rfl,rfl⟩;rw [if_pos b];have c : zxz 2 (some 2) (zgC e.2) = some (vSh e.2.shape):=rfl;rw [c,Option.bind_some,znA,zxw r,zr1]
theorem znt {α : Type} (k v : Int) (a : α) : ∀ S : List (Int × α),getM v (zkc k a S) = if k = v then some a else getM v S
 | [] => rfl
 | e :: r => by
   simp only [zkc]
   by_cases h : e.1 = k
   ·rw [if_pos h]
    simp only [getM,h]
    by_cases b : k = v
    ·rw [if_pos b,if_pos b]
    ·rw [if_neg b,if_neg b,if_neg b]
   ·rw [if_neg h]
    simp only [getM]
    by_cases b : e.1 = v
    ·rw [if_pos b,if_pos b,if_neg (by omega)]
    ·rw [if_neg b,if_neg b,znt k v a r]
theorem zvE {α : Type} {v : Int} : ∀ {S : List (Int × α)},v ∉ S.map Prod.fst → getM v S = none
 | [],_ => rfl
 | e :: r,h => by
   simp only [yi,yf,not_or] at h;rw [getM,if_neg (fun a => h.1 a.symm),zvE h.2]
theorem zrX (v : Int) : ∀ (D : ziR) (S : SMap),(D.map Prod.fst).Nodup → getM v (zr1 S D) = match getM v D with
  | some d => some d.shape
  | none => getM v S
 | [],S,_ => rfl
 | e :: r,S,h => by
   simp only [yi,ys] at h;rw [zr1,zrX v r _ h.2,getM,znt]
   by_cases a : e.1 = v
   ·rw [if_pos a,if_pos a,zvE (a ▸ h.1)]
   ·rw [if_neg a,if_neg a]
theorem zuH {α : Type} (k : Int) (a : α) : ∀ S : List (Int × α),(zkc k a S).map Prod.fst = if k ∈ S.map Prod.fst then S.map Prod.fst else S.map Prod.fst ++ [k]
 | [] => by simp [zkc]
 | e :: r => by
   simp only [zkc]
   by_cases h : e.1 = k
   ·rw [if_pos h]; simp [h]
   ·rw [if_neg h,yi,zuH k a r]
    by_cases b : k ∈ r.map Prod.fst
    ·rw [if_pos b,if_pos (by rw [yi]; exact yd _ b),yi]
    ·rw [if_neg b,if_neg (by rw [yi,yf]; rintro (c | c); exact h c.symm; exact b c)]; rfl
theorem ziY {α : Type} (k : Int) (a : α) {S : List (Int × α)} (h : (S.map Prod.fst).Nodup) : ((zkc k a S).map Prod.fst).Nodup:=by
 rw [zuH];split
 ·exact h
 ·rename_i d
  rw [yz];refine ⟨h,by simp,fun x c y b => ?_⟩;rw [yl] at b;intro e;exact d (by rw [← b,← e]; exact c)
theorem zo7 : ∀ (l : List Int) (i : Nat) (D : ziR),(D.map Prod.fst).Nodup → ((zdN i D l).map Prod.fst).Nodup
 | [],_,_,h => h
 | _ :: r,_,_,h => zo7 r _ _ (ziY _ _ h)
theorem zso (i : Int) : ∀ (l : List PPhi) (D : ziR),(D.map Prod.fst).Nodup → ((zgu i D l).1.map Prod.fst).Nodup
 | [],_,h => h
 | p :: r,D,h => by
   unfold zgu;split
   ·exact h
   ·split
    ·exact zso i r _ (ziY _ _ h)
    ·exact ziY _ _ h
theorem zpV (i : Int) : ∀ (l : List POp) (k : Nat) (D : ziR),(D.map Prod.fst).Nodup → ((zir i k D l).1.map Prod.fst).Nodup
 | [],_,_,h => h
 | p :: r,k,D,h => by
   unfold zir;split
   ·exact zpV i r _ _ h
   ·split
    ·exact zpV i r _ _ (ziY _ _ h)
    ·exact ziY _ _ h
theorem zoR : ∀ (l : List PBlock) (i : Nat) (D : ziR),(D.map Prod.fst).Nodup → ((zdj i D l).1.map Prod.fst).Nodup
 | [],_,_,h => h
 | b :: r,i,D,h => by
   unfold zdj;have a:=zso i b.phis D h;split
   ·rename_i e; rw [e] at a; exact a
   ·rename_i d e
    rw [e] at a;have c:=zpV i b.ops 0 d a;split
    ·rename_i e2; rw [e2] at c; exact c
    ·rename_i e2; rw [e2] at c; exact zoR r _ _ c
theorem zyl (f : PFunc) : ((zmt f).1.map Prod.fst).Nodup:=zoR _ _ _ (zo7 _ _ _ (by simp))
def zgt (f : PFunc) : SMap:=zr1 [] (zmt f).1
theorem zox {α : Type} (enc : α → V) (n : Nat) (h : ∀ a,(enc a).shift n = enc a) : ∀ D : List (Int × α),yH (fun e => (e.fst,V.shift n e.snd)) (zf5 enc D) = zf5 enc D
 | [] => rfl
 | e :: r => by
   have b:=zox enc n h r;unfold zf5 at b ⊢;simp only [yi,h,b]
theorem zk2 (n : Nat) (D : ziR) : yH (fun e => (e.fst,V.shift n e.snd)) (zf5 zgC D) = zf5 zgC D:=zox zgC n (fun _ => rfl) D
theorem zpv (n : Nat) (D : SMap) : yH (fun e => (e.fst,V.shift n e.snd)) (zf5 vSh D) = zf5 vSh D:=zox vSh n (fun _ => rfl) D
abbrev zIv (f : PFunc) (tree : List Int) : zd:=[O0 f,O0 f,.cells 0 8 [[.f (.sl (f.params.map ri)),.f (.lit (.int .i64 f.ret)),.f (.sl (f.blocks.map rb)),.f (.lit (.int .i64 2)),.f (.sl ((zo f).map rl)),.f (.sl ((zZ (zo f)).map rl)),.f (.sl (tree.map ri)),.map 5]],
 .cells 0 1 [[.fn 159 [.ptr 2 0 0 0] []],[.fn 160 [.ptr 2 0 0 0] []],[.fn 161 [.ptr 2 0 0 0] []],[.fn 162 [.ptr 2 0 0 0] []],[.fn 163 [.ptr 2 0 0 0] []]],
 .cells 0 1 [[.ptr 2 0 0 0]],.mp (zf5 zgC (zmt f).1),.mp (zf5 vSh (zgt f))]
theorem zuE (f : PFunc) (d : okF f) (tree : List Int) (c : zm6 f tree) (a : zh4 f 2 tree = 0) :
  call T 84 [zfg f] [] = some (.one (.map 6),zIv f tree):=by
 rw [ze (fn:=zfp) rfl];obtain ⟨σ',h,e⟩:=zvi f d 2 tree c;rw [e a,a] at h;have b : ziv 2 (some 2) 4 (zf5 zgC (zmt f).1) [] = some (zf5 vSh (zgt f)):=zxw (zmt f).1 [];simp -implicitDefEqProofs only [go_sem] at h;simp -implicitDefEqProofs only [go_sem,zfp,h,zCf,zu7,zxg,zk2,b,vSh,zIv]
variable (a0 a1 a2 a3 a4 a5 a6 a7 a8 a9 : V)
def row (t : Int × Int) : List Fz:=[.lit (.int .i64 t.1),.lit (.int .u64 t.2)]
def rows (ts : List (Int × Int)) : List (List Fz):=ts.map row
def fF (ts : List (Int × Int)) (off : Int) : V:=.agg [.f (.sl (rows ts)),.f (.lit (.int .u64 off))]
theorem zii {k n : Nat} (h : k < n) (a : n ≤ 9223372036854775807) : Go.IntKind.i64.wrap ((k : Int) + 1) = ((k + 1 : Nat) : Int):=by rw [wrap_i64] <;> omega
def zg : Int → List (Int × Int) → Bool
 | _,[] => true
 | last,t :: r => if t.1 ≤ last ∨ 1023 < t.1 ∨ t.2 = 0 then false else zg t.1 r
theorem zDs (a : List (Int × Int)) (off : Int) (g : a.length ≤ 9223372036854775807) : ∀ (d k : Nat) (last : Int) (a0 a1 a2 a4 a8 a9 : V),a.length - k = d → k ≤ a.length →
  (zg last (a.drop k) = true → exec T zf4 ⟨[a0,a1,a2,vI last,a4,vL (rows a),vI a.length,vI k,a8,a9],[.cells 0 2 [[.f (.sl (rows a)),.f (.lit (.int .u64 off))]]],0,0⟩ = some (.exit 0,⟨[vU,vU,vU,vU,vU,vU,vU,vU,vU,vU],[.cells 0 2 [[.f (.sl (rows a)),.f (.lit (.int .u64 off))]]],0,0⟩)) ∧
  (zg last (a.drop k) = false → ∃ o,exec T zf4 ⟨[a0,a1,a2,vI last,a4,vL (rows a),vI a.length,vI k,a8,a9],[.cells 0 2 [[.f (.sl (rows a)),.f (.lit (.int .u64 off))]]],0,0⟩ = some (.ret,⟨[vU,vU,vB false,vU,vU,vU,vU,vU,vU,vU],[.cells 0 2 [[.f (.sl (rows a)),.f (.lit (.int .u64 off))]],o],0,0⟩)):=by
 intro d
 induction d with
 | zero =>
   intro k last a0 a1 a2 a4 a8 a9 i j;have b : k = a.length:=(by omega);subst b;rw [xl zf4 rfl,zjk];simp -implicitDefEqProofs only [go_sem,Int.lt_irrefl,List.drop_length,zg,true_implies,false_implies,reduceCtorEq]
 | succ d ih =>
   intro k last a0 a1 a2 a4 a8 a9 i j;have b : k < a.length:=(by omega);have hd : a.drop k = a[k] :: a.drop (k + 1):=List.drop_eq_getElem_cons b;have c : (k : Int) < (a.length : Int):=(by omega);have e : (rows a)[k]? = some (row a[k]):=(by simp [rows,b]);rw [xl zf4 rfl,zjk,hd];simp -implicitDefEqProofs only [go_sem,c,Int.natCast_nonneg,yt,e,row,zg]
   by_cases c1 : a[k].1 ≤ last
   ·simp -implicitDefEqProofs only [go_sem,c1,true_or]
    exact ⟨fun h => by simp at h,fun _ => ⟨_,rfl⟩⟩
   ·by_cases c2 : 1023 < a[k].1
    ·simp -implicitDefEqProofs only [go_sem,c1,c2,true_or,or_true]
     exact ⟨fun h => by simp at h,fun _ => ⟨_,rfl⟩⟩
    ·by_cases c3 : a[k].2 = 0
     ·simp -implicitDefEqProofs only [go_sem,c1,c2,c3,true_or,or_true]
      exact ⟨fun h => by simp at h,fun _ => ⟨_,rfl⟩⟩
     ·simp -implicitDefEqProofs only [go_sem,c1,c2,c3,zii b g,or_false]
      exact ih (k + 1) _ _ _ _ _ _ _ (by omega) (by omega)
theorem zts (a : List (Int × Int)) (off : Int) (c : a.length ≤ 9223372036854775807) : call T 36 [fF a off] [] = some (zi4 (zg 0 a),[]):=by
 rw [ze (fn:=zit) rfl];have h:=zDs a off c a.length 0 0
 cases hm : zg 0 a with
 | true =>
   have b:=fun a0 a1 a2 a4 a8 a9 => (h a0 a1 a2 a4 a8 a9 (by omega) (by omega)).1 hm;simp -implicitDefEqProofs only [go_sem,zit,fF,rows,row,yF,yB] at b ⊢;simp -implicitDefEqProofs only [go_sem,b]
 | false =>
   obtain ⟨o,b⟩:=(h (fF a off) (.one (.ptr 0 0 0 0)) (vB false) vU vU vU (by omega) (by omega)).2 hm;simp -implicitDefEqProofs only [go_sem,zit,fF,rows,yF,yB] at b ⊢;simp -implicitDefEqProofs only [go_sem,b]
end AC

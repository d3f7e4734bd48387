/- A part of the proof of SchedTells. Conditions: none. -/
import Derived.Test.YtmkncmffaaninaaGreatTBH
import Derived.Test.YtmkncmffaaninaaGreatTBE
import Derived.Test.YtmkncmffaaninaaGreatTBA
set_option linter.all false
open List renaming getD_eq_getElem?_getD → ya,mem_cons_self → yc,getElem?_eq_getElem → yd,length_cons → ye,mem_cons → yf,mem_cons_of_mem → yg,mem_append → yh,range → yi,mem_range → yj,pairwise_cons → yk,mem_iff_getElem → yl,getElem_mem → ym,append_assoc → yn,all_eq_true → yo,getElem?_eq_some_iff → yp,mem_filter → yr,foldl_cons → yt,mem_singleton → yu,length_append → yw,length_erase_of_mem → yx,getElem?_cons_zero → yy,getElem_take → yz,getElem?_map → yA,mem_map → yB,length_take → yC,length_singleton → yD,find?_cons → yE,mem_erase_of_ne → yF,mem_of_mem_take → yG,getElem?_range → yH,find?_eq_none → yI,all_cons → yJ,filter_cons → yM,all_map → yP,range_succ → yR,take_take → yT,take_left → yU
open Bool renaming and_eq_true → yb,or_eq_true → yq,not_eq_true' → yL,eq_iff_iff → yQ
open Nat renaming lt_succ_iff_lt_or_eq → ys,lt_succ_self → yK,min_eq_left → yN,add_zero → yV,zero_add → yW,sub_self → yX,zero_le → yZ,le_refl → y0
open Int renaming toNat_natCast → yv,le_refl → yO,lt_irrefl → yS,ofNat → yY
open Iff renaming rfl → y1
namespace AC
open Go Go.A Go.A.Lex
open Dm
theorem zFJ {f : PFunc} (hf : okF f) (h : zaI f = true) : ∃ (t : List Int) (O : Int → Prop) (pos : Int → Nat),TreeOf (zq f) ((0 : Nat) : Int) O pos t ∧ zuN f (t.set 0 (-1)):=by
 have hm:=zf5 h;obtain ⟨i,n64,k⟩:=zfa hm;obtain ⟨o,d,tail,t,O,pos,b,g,c,j,e,Q,l⟩:=zFN hm (root:=0) (by omega);refine ⟨t,O,pos,Q,?_,fun _ => ?_⟩
 ·rw [zl7 Q]; omega
 ·have a : zCf (zq f) (zR (zq f)) = true:=by unfold zCf; rw [hm]; simp
  exact zAj (zq f) (zR (zq f)) (zi6 hf) a 0 (by omega) 200 (by omega) o b d tail g c (by omega) 200 5000 t e
theorem ztp (f : PFunc) (hf : okF f) : ∃ tree,zuN f tree ∧ (zaI f = true → ∃ (t : List Int) (O : Int → Prop) (pos : Int → Nat),TreeOf (zq f) ((0 : Nat) : Int) O pos t ∧ tree = t.set 0 (-1)):=by
 cases c : zaI f
 ·exact ⟨[],⟨by simp,fun h => by rw [c] at h; cases h⟩,fun h => by cases h⟩
 ·obtain ⟨t,O,pos,Q,a⟩:=zFJ hf c
  exact ⟨_,a,fun _ => ⟨t,O,pos,Q,rfl⟩⟩
noncomputable def zEn (f : PFunc) : List Int:=open Classical in if h : okF f then (ztp f h).choose else []
theorem zFH {f : PFunc} (hf : okF f) : zuN f (zEn f):=by
 unfold zEn;rw [dif_pos hf];exact (ztp f hf).choose_spec.1
theorem zFA {f : PFunc} (hf : okF f) (h : zaI f = true) : ∃ (t : List Int) (O : Int → Prop) (pos : Int → Nat),TreeOf (zq f) ((0 : Nat) : Int) O pos t ∧ zEn f = t.set 0 (-1):=by
 unfold zEn;rw [dif_pos hf];exact (ztp f hf).choose_spec.2 h
theorem zyi (f : PFunc) (hf : okF f) (level : Int) : call T 51 [zd4 f,vI level] [] = some (vI (zpZ f level (zEn f)),[]):=zyQ f hf level _ (zFH hf)
section
variable {f : PFunc} (hf : okF f) (hg : zaI f = true) {t : List Int} {O : Int → Prop} {pos : Int → Nat} (Q : TreeOf (zq f) ((0 : Nat) : Int) O pos t)
include hg Q
theorem zl6 : ∀ (l : List PBlock) (i : Nat),zeH (zR (zq f)) (t.set 0 (-1)) i l = zbD (zR (zq f)) (zdU (zq f) 0 (-1)) i l
 | [],_ => rfl
 | b :: l,i => by
   rw [zeH,zbD,zl6 l (i + 1),zsy,zkV]
   congr 1
   have e : zlP (t.set 0 (-1)) (i : Int) (i : Int) = (zdU (zq f) 0 (-1)).getD i false:=by
    rw [yQ];have c:=zCP Q (i : Int) (i : Int);have a:=zws (zf5 hg) Q i;rw [c];exact ⟨fun h => a.2 h.1,fun h => ⟨a.1 h,a.1 h,zDv _⟩⟩
   rw [e,Bool.and_comm (b.phis.all _)]
theorem zza : zhV f (t.set 0 (-1)) = zg2 f:=by
 unfold zhV zg2;rw [zl6 hg Q]
end
theorem zlF (ask : Use → Int) (c : Int) (b : c ≠ 0) : ∀ l : List Use,(∀ u ∈ l,ask u = 0 ∨ ask u = c) → zaa ask l = if l.all (fun u => decide (ask u = 0)) = true then 0 else c
 | [],_ => rfl
 | u :: l,h => by
   have e:=zlF ask c b l fun x d => h x (yg _ d);rw [zaa,yJ];rcases h u yc with a | a
   ·rw [if_pos a,e,a]
    simp
   ·rw [if_neg (by rw [a]; exact b),a]
    simp [b]
theorem zoo {l : List Use} {p q : Use → Bool} (h : ∀ u ∈ l,p u = q u) : l.all p = l.all q:=by
 induction l with
 | nil => rfl
 | cons x l ih => rw [yJ,yJ,h x yc,ih fun y a => h y (yg _ a)]
theorem zll (defs : List Use) (v : Int) : ∀ (k : Nat),(zl v k defs < 0 ↔ (lk defs v).isNone = true) ∧ (0 ≤ zl v k defs → defs[(zl v k defs - k).toNat]? = defs.find? (fun u => decide (u.v = v))):=by
 induction defs with
 | nil => intro k; simp [zl,lk]
 | cons u r ih =>
   intro k;obtain ⟨b,a⟩:=ih (k + 1);rw [zl]
   by_cases c : u.v = v
   ·rw [if_pos c]
    constructor
    ·constructor
     ·intro h; omega
     ·intro h
      exact absurd c (zow.1 h u yc)
    ·intro _
     rw [Int.sub_self,yE,decide_eq_true c];rfl
   ·rw [if_neg c]
    have e : lk (u :: r) v = lk r v:=(by unfold lk; rw [yE,decide_eq_false c]);rw [e];refine ⟨b,fun h => ?_⟩;have:=a h;have d:=zj2 v r (k + 1) h;rw [yE,decide_eq_false c,← this];rw [show (zl v (k + 1) r - (k : Int)).toNat = (zl v (k + 1) r - ((k + 1 : Nat) : Int)).toNat + 1 by omega,List.getElem?_cons_succ]
theorem zDY {defs : List Use} {v : Int} {p : PDef} (h : lk defs v = some p) : toP (ziM defs v) = p:=by
 obtain ⟨b,a⟩:=zll defs v 0
 have d : 0 ≤ zl v 0 defs:=by
  by_cases c : zl v 0 defs < 0
  ·have:=b.1 c
   rw [h] at this;cases this
  ·omega
 have:=a d;rw [show zl v 0 defs - ((0 : Nat) : Int) = zl v 0 defs by omega] at this;unfold lk at h
 cases e : defs.find? (fun u => decide (u.v = v)) with
 | none => rw [e] at h; cases h
 | some x =>
   rw [e] at h this;unfold ziM;rw [ya,this];simpa using h
theorem zno (p : PPhi) : ∀ (l : List Int) (k : Nat),k + l.length ≤ p.src.length → ∀ u ∈ zG p k l,u.block ∈ p.src ∧ u.at' = 1048576
 | [],_,_ => by simp [zG]
 | v :: l,k,h => by
   simp only [ye] at h;intro u hu;rw [zG] at hu;rcases yf.1 hu with rfl | hu
   ·refine ⟨?_,rfl⟩
    show p.src.getD k 0 ∈ p.src
    rw [ya,yd (by omega)];exact ym _
   ·exact zno p l (k + 1) (by omega) u hu
theorem zoQ (o : POp) (i at' : Int) : ∀ (l : List (Int × Int)) (k : Nat),∀ u ∈ zM o i at' k l,u.block = i ∧ u.at' = at'
 | [],_ => by simp [zM]
 | s :: l,k => by
   intro u hu;rw [zM] at hu;rcases yf.1 hu with rfl | hu
   ·exact ⟨rfl,rfl⟩
   ·exact zoQ o i at' l (k + 1) u hu
theorem znL (i : Int) : ∀ (l : List POp) (k : Nat),∀ u ∈ zo i k l,u.block = i ∧ 0 ≤ u.at' ∧ u.at' < ((k + l.length : Nat) : Int)
 | [],_ => by simp [zo]
 | o :: l,k => by
   intro u hu;rw [zo] at hu;rcases yh.1 hu with hu | hu
   ·obtain ⟨a,b⟩:=zoQ o i (k : Int) _ 0 u hu
    simp only [ye];exact ⟨a,by omega,by omega⟩
   ·obtain ⟨a,b,c⟩:=znL i l (k + 1) u hu
    simp only [ye];exact ⟨a,b,by omega⟩
theorem zmr (pred : List (List Int)) (reach : List Bool) : ∀ (l : List PBlock) (i : Nat),zbD pred reach i l = true → ∀ k b,l[k]? = some b → zkV pred reach (i + k) b = true
 | [],_,_ => by simp
 | b :: l,i,h => by
   rw [zbD,yb] at h;intro k c a
   cases k with
   | zero =>
     simp only [yy,Option.some.injEq] at a;subst a;exact h.1
   | succ k =>
     have:=zmr pred reach l (i + 1) h.2 k c (by simpa using a)
     rwa [show i + 1 + k = i + (k + 1) by omega] at this
theorem zlV (f : PFunc) (P : Int → Prop) : ∀ (l : List PBlock) (k : Nat),(∀ j b,l[j]? = some b → P ((k + j : Nat) : Int) ∧ b.ops.length ≤ 1000 ∧ ∀ p ∈ b.phis,p.args.length = p.src.length ∧ ∀ x ∈ p.src,P x) → ∀ u ∈ zas f k l,P u.block ∧ (u.at' = 1048576 ∨ (0 ≤ u.at' ∧ u.at' < 1000))
 | [],_,_ => by simp [zas]
 | b :: l,k,h => by
   intro u hu;obtain ⟨g,n,m⟩:=h 0 b rfl;rw [yV] at g;rw [zas,zgT] at hu;rcases yh.1 hu with hu | hu
   ·rcases yh.1 hu with hu | hu
    ·unfold zar at hu
     rw [List.mem_flatMap] at hu;obtain ⟨p,a,hu⟩:=hu;obtain ⟨e1,e2⟩:=m p a;obtain ⟨e,d⟩:=zno p p.args 0 (by omega) u hu;exact ⟨e2 _ e,.inl d⟩
    ·rcases yh.1 hu with hu | hu
     ·obtain ⟨e,d,o⟩:=znL (k : Int) b.ops 0 u hu
      rw [e];exact ⟨g,.inr ⟨d,by omega⟩⟩
     ·unfold zbE at hu
      split at hu
      ·simp at hu
      ·rw [yu.1 hu]
       exact ⟨g,.inl rfl⟩
   ·exact zlV f P l (k + 1) (fun j c i => by
    have:=h (j + 1) c (by simpa using i)
    rwa [show k + (j + 1) = k + 1 + j by omega] at this) u hu
theorem zkt (i : Int) : ∀ (l : List POp) (k : Nat),∀ u ∈ zby i k l,u.block = i ∧ 0 ≤ u.at' ∧ u.at' < ((k + l.length : Nat) : Int)
 | [],_ => by simp [zby]
 | o :: l,k => by
   intro u hu;rw [zby] at hu;simp only [ye];split at hu
   ·rcases yf.1 hu with rfl | hu
    ·exact ⟨rfl,by show (0 : Int) ≤ (k : Int); omega,by show (k : Int) < _; omega⟩
    ·obtain ⟨b,a,c⟩:=zkt i l (k + 1) u hu
     exact ⟨b,a,by omega⟩
   ·obtain ⟨b,a,c⟩:=zkt i l (k + 1) u hu
    exact ⟨b,a,by omega⟩
theorem zj4 : ∀ (l : List PBlock) (k : Nat),(∀ b ∈ l,b.ops.length ≤ 1000) → ∀ u ∈ zL k l,(k : Int) ≤ u.block ∧ u.block < ((k + l.length : Nat) : Int) ∧ u.at' < 1000
 | [],_,_ => by simp [zL]
 | b :: l,k,h => by
   intro u hu;have g:=h b yc;simp only [ye];rw [zL] at hu;rcases yh.1 hu with hu | hu
   ·unfold zc0 at hu
    obtain ⟨p,_,rfl⟩:=yB.1 hu;exact ⟨yO _,by show (k : Int) < _; omega,by show (-1 : Int) < 1000; omega⟩
   ·rcases yh.1 hu with hu | hu
    ·obtain ⟨f,d,a⟩:=zkt (k : Int) b.ops 0 u hu
     exact ⟨by omega,by omega,by omega⟩
    ·obtain ⟨f,d,a⟩:=zj4 l (k + 1) (fun c e => h c (yg _ e)) u hu
     exact ⟨by omega,by omega,a⟩
theorem zku : ∀ (l : List Int) (k : Nat),∀ u ∈ za0 k l,u.block = -1 ∧ u.at' = 0
 | [],_ => by simp [za0]
 | b :: l,k => by
   intro u hu;rw [za0] at hu;rcases yf.1 hu with rfl | hu
   ·exact ⟨rfl,rfl⟩
   ·exact zku l (k + 1) u hu
theorem zqg {f : PFunc} (h : ziX f ≤ 512) : ∀ b ∈ f.blocks,b.ops.length ≤ 1000:=fun b c => by
 have key : ∀ l : List PBlock,b ∈ l → b.phis.length + b.ops.length ≤ (l.map fun b => b.phis.length + b.ops.length).sum:=by
  intro l
  induction l with
  | nil => intro h; cases h
  | cons a l ih =>
    intro h;simp only [List.map_cons,List.sum_cons];rcases yf.1 h with rfl | h
    ·omega
    ·have:=ih h; omega
 have:=key _ c;unfold ziX at h;omega
theorem zAi {f : PFunc} (hf : okF f) (level : Int) (hm : zmQ f = true) : zmM f level (zEn f) = zac f level ∨ level < 0 ∨ 2 < level:=by
 by_cases w : level < 0 ∨ 2 < level
 ·exact .inr w
 left;unfold zmM zac;have A : ¬ zmQ f = false:=by simp [hm]
 have tf : ¬ (true = false):=by simp
 have ff : false = false:=rfl;rw [if_neg w,if_neg A,if_neg A];cases hg : zaI f
 ·have e1 : zhV f (zEn f) = false:=by unfold zhV; rw [hg]; rfl
  have e2 : zg2 f = false:=by unfold zg2; rw [hg]; rfl
  rw [if_pos e1,if_pos e2]
 obtain ⟨t,O,pos,Q,N⟩:=zFA hf hg;have l:=zf5 hg;rw [N,zza hg Q];cases L : zg2 f
 ·rw [if_pos ff,if_pos ff]
 rw [if_neg tf,if_neg tf];cases ht : zgc f level
 ·rw [if_pos ff,if_pos ff]
 rw [if_neg tf,if_neg tf];obtain ⟨n1,n64,U,B,nb⟩:=zi4 hm;obtain ⟨d1,d2⟩:=zDz (f:=f) U
 cases hd : ztn f with
 | mk D q =>
   rw [hd] at d1 d2
   cases q with
   | some x =>
     have : zgm (zN f) 0 (zN f) = false:=d1.symm;simp only;rw [if_pos this]
   | none =>
     have r : zgm (zN f) 0 (zN f) = true:=d1.symm;have R:=d2 r;simp only at R ⊢;rw [r,if_neg tf]
     have o : zbD (zR (zq f)) (zdU (zq f) 0 (-1)) 0 f.blocks = true:=by
      unfold zg2 at L;rw [yb] at L;exact L.2
     have m : ∀ i : Nat,i < f.blocks.length → O (i : Int):=fun i K => by
      have:=zmr _ _ _ _ o i _ (yd K);unfold zkV at this;rw [yb,yW] at this;exact (zws l Q i).1 this.1
     have hr:=(zfa l).2.2;have V : (zq f).length = f.blocks.length:=by simp [zq]
     have X : ∀ u ∈ zfJ f,O u.block ∧ (u.at' = 1048576 ∨ (0 ≤ u.at' ∧ u.at' < 1000)):=by
      refine zlV f O f.blocks 0 fun j b H => ?_;have hj:=(yp.1 H).1;have g:=zmr _ _ _ _ o j b H;rw [yW] at g ⊢;unfold zkV at g;simp only [yb,yo] at g;refine ⟨m j hj,zqg B b (List.mem_of_getElem? H),fun p n => ?_⟩;have C:=g.2.2 p n;unfold ziH at C;simp only [yb,decide_eq_true_eq] at C;refine ⟨C.2,fun x S => ?_⟩;rw [C.1] at S;have:=(znK hr (x:=(j : Int)) ⟨by omega,by omega⟩ x).1 (by rw [yv]; exact S);obtain ⟨y,J⟩ : ∃ y : Nat,(y : Int) = x:=⟨x.toNat,by have:=this.1; omega⟩;rw [← J];exact m y (by have:=this.2.1; omega)
     have M : ∀ d ∈ zN f,(d.block < 0 ∨ O d.block) ∧ d.at' < 1000:=fun d a => by
      unfold zN at a;rcases yh.1 a with a | a
      ·obtain ⟨e1,e2⟩:=zku _ _ d a
       exact ⟨.inl (by omega),by omega⟩
      ·obtain ⟨e1,e2,e3⟩:=zj4 f.blocks 0 (zqg B) d a
       refine ⟨.inr ?_,e3⟩;obtain ⟨y,J⟩ : ∃ y : Nat,(y : Int) = d.block:=⟨d.block.toNat,by omega⟩;rw [← J];exact m y (by omega)
     have f1:=zlF (zlR D) 7 (by omega) (zfJ f) fun u _ => by unfold zlR; split <;> simp
     have a1 : (zfJ f).all (fun u => decide (zlR D u = 0)) = (zfg f).all (zk8 (zN f)):=by
      unfold zfg;rw [yP];refine zoo fun u _ => ?_
      show decide (zlR D u = 0) = zk8 (zN f) (z8 u)
      have e:=(zll (zN f) u.v 0).1;unfold zlR zk8;rw [R u.v]
      show _ = !decide (zl u.v 0 (zN f) < 0)
      by_cases c : zl u.v 0 (zN f) < 0
      ·rw [if_pos (e.1 c),decide_eq_true c]; rfl
      ·rw [if_neg (fun h => c (e.2 h)),decide_eq_false c]; rfl
     rw [f1,a1];cases b1 : (zfg f).all (zk8 (zN f))
     ·simp
     have k : ∀ u ∈ zfJ f,∃ p,lk (zN f) u.v = some p:=fun u hu => by
      have:=yo.1 b1 (z8 u) (List.mem_map_of_mem hu);unfold zk8 at this;have e:=(zll (zN f) u.v 0).1
      cases h : lk (zN f) u.v with
      | some p => exact ⟨p,rfl⟩
      | none =>
        have Z:=e.2 (by rw [h]; rfl);have : (!decide (zl u.v 0 (zN f) < 0)) = true:=this;rw [decide_eq_true Z] at this;cases this
     have s : ∀ u ∈ zfJ f,zmt D u.v = toP (ziM (zN f) u.v):=fun u hu => by
      obtain ⟨p,n⟩:=k u hu;unfold zmt;rw [R u.v,n,zDY n];rfl
     have f2:=zlF (zcJ D) 6 (by omega) (zfJ f) fun u _ => by unfold zcJ; split <;> simp
     have a2 : (zfJ f).all (fun u => decide (zcJ D u = 0)) = (zfg f).all (sameShape (zN f)):=by
      unfold zfg;rw [yP];refine zoo fun u hu => ?_
      show decide (zcJ D u = 0) = sameShape (zN f) (z8 u)
      unfold zcJ sameShape;rw [s u hu]
      show decide ((if (ziM (zN f) u.v).shape = u.shape then (0 : Int) else 6) = 0) = decide ((ziM (zN f) u.v).shape = u.shape)
      by_cases c : (ziM (zN f) u.v).shape = u.shape
      ·rw [if_pos c,decide_eq_true c]; rfl
      ·rw [if_neg c,decide_eq_false c]; rfl
     rw [f2,a2];cases b2 : (zfg f).all (sameShape (zN f))
     ·simp
     have f3:=zlF (zbb D (t.set 0 (-1))) 7 (by omega) (zfJ f) fun u _ => by
      unfold zbb;simp only;split
      ·simp
      ·split <;> simp
     have a3 : (zfJ f).all (fun u => decide (zbb D (t.set 0 (-1)) u = 0)) = (zfg f).all (zhd (zN f) (zfA (zq f) 0)):=by
      have e7 : zfA (zq f) 0 = t.set 0 (-1):=zzv l Q;rw [e7];unfold zfg;rw [yP];refine zoo fun u hu => ?_
      show decide (zbb D (t.set 0 (-1)) u = 0) = zhd (zN f) (t.set 0 (-1)) (z8 u)
      obtain ⟨Y,ua⟩:=X u hu;unfold zbb zhd;rw [s u hu];have I : (z8 u).v = u.v:=rfl;have G : (z8 u).block = u.block:=rfl;rw [I,G];obtain ⟨d,a⟩ : ∃ d,d = ziM (zN f) u.v:=⟨_,rfl⟩;rw [← a]
      have E : d ∈ zN f:=by
       obtain ⟨p,n⟩:=k u hu;have K:=zll (zN f) u.v 0
       have W : 0 ≤ zl u.v 0 (zN f):=by
        by_cases c : zl u.v 0 (zN f) < 0
        ·have:=K.1.1 c
         rw [n] at this;cases this
        ·omega
       have aA:=zj2 u.v (zN f) 0 W;rw [a];unfold ziM;rw [ya,yd (by omega)];exact ym _
      obtain ⟨db,da⟩:=M d E
      show decide ((if d.block < 0 then (0 : Int) else if (d.block = u.block ∧ d.at' < u.at') ∨ (d.block ≠ u.block ∧ zlP (t.set 0 (-1)) d.block u.block = true) then 0 else 7) = 0) = _
      by_cases c1 : d.block < 0
      ·rw [if_pos c1,decide_eq_true c1]; rfl
      ·rw [if_neg c1,decide_eq_false c1]
       have dO:=db.resolve_left c1;have z:=zBi Q dO Y
       by_cases c2 : d.block = u.block
       ·have P : (d.at' < u.at') ↔ (d.at' < (z8 u).at'):=by
         show _ ↔ d.at' < (if u.at' = 1048576 then 1000 else u.at')
         split <;> omega
        by_cases c3 : d.at' < u.at'
        ·rw [if_pos (.inl ⟨c2,c3⟩),decide_eq_true c2,decide_eq_true (P.1 c3)]; rfl
        ·rw [if_neg (fun h => h.elim (fun h => c3 h.2) (fun h => h.1 c2)),decide_eq_true c2,decide_eq_false (fun h => c3 (P.2 h))]; rfl
       ·rw [decide_eq_false c2]
        by_cases c4 : zlP (t.set 0 (-1)) d.block u.block = true
        ·rw [if_pos (.inr ⟨c2,c4⟩),decide_eq_true (z.2 c4)]; rfl
        ·rw [if_neg (fun h => h.elim (fun h => c2 h.1) (fun h => c4 h.2)),decide_eq_false (fun h => c4 (z.1 h))]; rfl
     rw [f3,a3];cases b3 : (zfg f).all (zhd (zN f) (zfA (zq f) 0)) <;> simp
theorem zzE {f : PFunc} (hf : okF f) (level : Int) : zpZ f level (zEn f) = zac f level:=by
 unfold zpZ
 by_cases a : level < 0 ∨ 2 < level
 ·rw [if_pos a]
  unfold zac;rw [if_pos a]
 ·rw [if_neg a]
  cases hm : zmQ f
  ·unfold zmM zac
   rw [if_neg a,if_pos hm,if_pos hm]
  ·exact (zAi hf level hm).resolve_right a
end AC
namespace AC
open Go Go.A
abbrev zre:=List (Int × Int)
def zio (D : zre) : List Int → List Int
 | [] => []
 | v :: r => match getM v D with
   | some k => k :: zio D r
   | none => zio D r
def zmc (D : zre) (imp : List Int) (o : POp) : List Int:=zp (zcx (zio D o.args ++ if pure o.kind = true then [] else imp))
def zeW (D : zre) (k : Nat) (o : POp) : zre:=if 0 < o.dst then zkf o.dst (k : Int) D else D
def zjN (imp : List Int) (k : Nat) (o : POp) : List Int:=if pure o.kind = true then imp else imp ++ [(k : Int)]
def zdT : Nat → zre → List Int → List POp → List (List Int)
 | _,_,_,[] => []
 | k,D,imp,o :: r => zmc D imp o :: zdT (k + 1) (zeW D k o) (zjN imp k o) r
def zdv (b : PBlock) : List (List Int):=zdT 0 [] [] b.ops
theorem zhe : ∀ (ops : List POp) (k : Nat) (D : zre) (imp : List Int),(zdT k D imp ops).length = ops.length
 | [],_,_,_ => rfl
 | o :: r,k,D,imp => by rw [zdT,ye,zhe r,ye]
theorem zm5 (D : zre) : ∀ l,(zio D l).length ≤ l.length
 | [] => by simp [zio]
 | v :: r => by
   rw [zio];have:=zm5 D r;split
   ·simp only [ye]; omega
   ·simp only [ye]; omega
theorem zsC (D : zre) (k : Int) : ∀ l,k ∈ zio D l ↔ ∃ v ∈ l,getM v D = some k
 | [] => by simp [zio]
 | v :: r => by
   rw [zio];have a:=zsC D k r
   cases e : getM v D with
   | none => simp [a,e]
   | some j =>
     simp only [yf,a,exists_eq_or_imp,e,Option.some.injEq];exact or_congr ⟨fun h => h.symm,fun h => h.symm⟩ y1
theorem zvQ {α : Type} (k v : Int) (a : α) : ∀ S : List (Int × α),getM v (zkf k a S) = if k = v then some a else getM v S
 | [] => rfl
 | e :: r => by
   simp only [zkf]
   by_cases c : e.1 = k
   ·rw [if_pos c,getM,getM]
    by_cases d : k = v
    ·rw [if_pos d,if_pos d]
    ·rw [if_neg d,if_neg d,if_neg (fun h => d (c.symm.trans h))]
   ·rw [if_neg c,getM,getM,zvQ k v a r]
    by_cases d : e.1 = v
    ·rw [if_pos d,if_pos d,if_neg (fun h => c (d.trans h.symm))]
    ·rw [if_neg d,if_neg d]
abbrev zHc (l : List Int) : Prop:=l.Pairwise (· < ·)
theorem zjH (x : Int) : ∀ l,x ∈ zp l ↔ x ∈ l
 | [] => y1
 | [y] => y1
 | y :: z :: r => by
   rw [zp]
   by_cases c : y = z
   ·rw [if_pos c,zjH x (z :: r),c]
    simp
   ·rw [if_neg c,yf,zjH x (z :: r),yf (l:=z :: r)]
theorem zk0 : ∀ l : List Int,l.Pairwise (· ≤ ·) → zHc (zp l)
 | [],_ => List.Pairwise.nil
 | [y],_ => by simp [zp]
 | y :: z :: r,h => by
   rw [zp];have b:=(yk.1 h).2
   by_cases c : y = z
   ·rw [if_pos c]; exact zk0 _ b
   ·rw [if_neg c]
    refine yk.2 ⟨fun x a => ?_,zk0 _ b⟩;rw [zjH] at a;have e:=(yk.1 h).1 z yc
    have d : z ≤ x:=by
     rcases yf.1 a with rfl | a
     ·exact yO _
     ·exact (yk.1 b).1 x a
    omega
theorem zD7 (x : Int) (l : List Int) : x ∈ zcx l ↔ x ∈ l:=by
 unfold zcx;exact (List.mergeSort_perm l _).mem_iff
theorem zFM (l : List Int) : (zcx l).Pairwise (· ≤ ·):=by
 unfold zcx;refine (List.pairwise_mergeSort (fun a b c e d => ?_) (fun a b => ?_) l).imp fun h => by simpa using h
 ·simp only [decide_eq_true_eq] at *; omega
 ·simp only [yq,decide_eq_true_eq]; omega
theorem zxe : ∀ {a b : List Int},zHc a → zHc b → (∀ x,x ∈ a ↔ x ∈ b) → a = b
 | [],[],_,_,_ => rfl
 | [],y :: b,_,_,h => absurd ((h y).2 yc) (by simp)
 | x :: a,[],_,_,h => absurd ((h x).1 yc) (by simp)
 | x :: a,y :: b,ha,hb,h => by
   obtain ⟨a1,a2⟩:=yk.1 ha;obtain ⟨b1,b2⟩:=yk.1 hb
   have e : x = y:=by
    rcases yf.1 ((h x).1 yc) with e | f
    ·exact e
    ·rcases yf.1 ((h y).2 yc) with e | g
     ·exact e.symm
     ·have:=a1 y g; have:=b1 x f; omega
   subst e
   congr 1
   refine zxe a2 b2 fun z => ⟨fun c => ?_,fun c => ?_⟩
   ·rcases yf.1 ((h z).1 (yg _ c)) with rfl | d
    ·exact absurd (a1 z c) (yS _)
    ·exact d
   ·rcases yf.1 ((h z).2 (yg _ c)) with rfl | d
    ·exact absurd (b1 z c) (yS _)
    ·exact d
def op0 : POp:=⟨0,0,0,0,[],0⟩
def onB (ops : List POp) (a k : Nat) : Bool:=decide (k < a) && ((decide ((ops.getD k op0).dst ≠ 0) && decide ((ops.getD k op0).dst ∈ (ops.getD a op0).args)) || (!pure (ops.getD k op0).kind && !pure (ops.getD a op0).kind))
def zdV (ops : List POp) (a : Nat) : List Int:=((yi a).filter (onB ops a)).map yY
theorem zkA {ops : List POp} {a : Nat} {x : Int} : x ∈ zdV ops a ↔ ∃ k : Nat,(k : Int) = x ∧ onB ops a k = true:=by
 unfold zdV;rw [yB];constructor
 ·rintro ⟨k,b,rfl⟩
  exact ⟨k,rfl,(yr.1 b).2⟩
 ·rintro ⟨k,rfl,b⟩
  refine ⟨k,yr.2 ⟨?_,b⟩,rfl⟩;unfold onB at b;simp only [yb,decide_eq_true_eq] at b;exact yj.2 b.1
theorem zyf (ops : List POp) (a : Nat) : zHc (zdV ops a):=by
 unfold zdV;refine List.Pairwise.map (R:=(· < ·)) _ (fun x y h => by simpa using h) ?_;exact List.Pairwise.filter _ List.pairwise_lt_range
structure OneDef (ops : List POp) : Prop where
 pos : ∀ o ∈ ops,0 ≤ o.dst
 one : ∀ i j (hi : i < ops.length) (hj : j < ops.length),0 < ops[i].dst → ops[i].dst = ops[j].dst → i = j
def zCN (ops : List POp) (k : Nat) (D : zre) : Prop:=∀ v x,getM v D = some x ↔ ∃ j : Nat,(j : Int) = x ∧ j < k ∧ 0 < v ∧ (ops.getD j op0).dst = v
def zxO (ops : List POp) (k : Nat) : List Int:=((yi k).filter fun j => !pure (ops.getD j op0).kind).map yY
theorem zy5 (ops : List POp) (k : Nat) (a : k < ops.length) : zxO ops (k + 1) = zjN (zxO ops k) k ops[k]:=by
 unfold zxO zjN;rw [yR,List.filter_append,List.map_append];have e : ops.getD k op0 = ops[k]:=by rw [ya,yd a]; rfl
 cases c : pure ops[k].kind
 ·rw [yM,e,c]; rfl
 ·rw [yM,e,c]; simp
theorem zyY {ops : List POp} (b : OneDef ops) {k : Nat} (l : k < ops.length) {D : zre} (h : zCN ops k D) : zCN ops (k + 1) (zeW D k ops[k]):=by
 have e : ∀ j (m : j < ops.length),ops.getD j op0 = ops[j]:=fun j m => by rw [ya,yd m]; rfl
 intro v x;unfold zeW
 by_cases c : 0 < ops[k].dst
 ·rw [if_pos c,zvQ]
  by_cases d : ops[k].dst = v
  ·rw [if_pos d]
   constructor
   ·intro n
    exact ⟨k,by simpa using n,by omega,by omega,by rw [e k l]; exact d⟩
   ·rintro ⟨j,rfl,m,o,hd⟩
    have i : j < ops.length:=(by omega);rw [e j i] at hd;have:=b.one k j l i c (by rw [d,hd]);rw [this]
  ·rw [if_neg d,h v x]
   constructor
   ·rintro ⟨j,b,g,f,a⟩
    exact ⟨j,b,by omega,f,a⟩
   ·rintro ⟨j,b,g,f,a⟩
    refine ⟨j,b,?_,f,a⟩;rcases ys.1 g with h | rfl
    ·exact h
    ·rw [e j l] at a; exact absurd a d
 ·rw [if_neg c,h v x]
  constructor
  ·rintro ⟨j,b,g,f,a⟩
   exact ⟨j,b,by omega,f,a⟩
  ·rintro ⟨j,b,g,f,a⟩
   refine ⟨j,b,?_,f,a⟩;rcases ys.1 g with h | rfl
   ·exact h
   ·rw [e j l] at a; omega
theorem zGo {ops : List POp} (l : OneDef ops) {k : Nat} (g : k < ops.length) {D : zre} (h : zCN ops k D) : zmc D (zxO ops k) ops[k] = zdV ops k:=by
 have e : ∀ j (a : j < ops.length),ops.getD j op0 = ops[j]:=fun j a => by rw [ya,yd a]; rfl
 unfold zmc;refine zxe (zk0 _ (zFM _)) (zyf _ _) fun x => ?_;rw [zjH,zD7,yh,zsC,zkA];constructor
 ·rintro (⟨v,m,b⟩ | b)
  ·obtain ⟨j,rfl,a,o,hd⟩:=(h v x).1 b
   refine ⟨j,rfl,?_⟩;unfold onB;rw [e k g,hd];simp only [yb,yq,decide_eq_true_eq];exact ⟨a,.inl ⟨by omega,m⟩⟩
  ·split at b
   ·simp at b
   ·rename_i c
    unfold zxO at b;obtain ⟨j,a,rfl⟩:=yB.1 b;obtain ⟨i,f⟩:=yr.1 a;refine ⟨j,rfl,?_⟩;unfold onB;rw [e k g];simp only [yb,yq,decide_eq_true_eq];exact ⟨yj.1 i,.inr ⟨f,by simpa using c⟩⟩
 ·rintro ⟨j,rfl,a⟩
  unfold onB at a;rw [e k g] at a;simp only [yb,yq,decide_eq_true_eq] at a;obtain ⟨d,a | a⟩:=a
  ·refine .inl ⟨_,a.2,(h _ _).2 ⟨j,rfl,d,?_,rfl⟩⟩
   have o:=l.pos ops[j] (ym (by omega));have n:=a.1;rw [e j (by omega)] at n ⊢;omega
  ·refine .inr ?_
   rw [if_neg (by simpa using a.2)];exact yB.2 ⟨j,yr.2 ⟨yj.2 d,a.1⟩,rfl⟩
theorem zoN {ops : List POp} (b : OneDef ops) : ∀ (d k : Nat) (D : zre),ops.length - k = d → k ≤ ops.length → zCN ops k D → zdT k D (zxO ops k) (ops.drop k) = (List.range' k d).map (zdV ops)
 | 0,k,D,h2,h3,_ => by
   have : ops.drop k = []:=List.drop_eq_nil_of_le (by omega);rw [this]; rfl
 | d + 1,k,D,h2,h3,h => by
   have a : k < ops.length:=(by omega);rw [List.drop_eq_getElem_cons a,zdT,zGo b a h,← zy5 ops k a,zoN b d (k + 1) _ (by omega) (by omega) (zyY b a h)];rfl
theorem zjW {b : PBlock} (a : OneDef b.ops) : zdv b = (yi b.ops.length).map (zdV b.ops):=by
 unfold zdv;have:=zoN a b.ops.length 0 [] rfl (yZ _) (fun v x => by simp [getM]);rw [List.drop_zero] at this;rw [List.range_eq_range'];exact this
theorem zpx {ops : List POp} {a : Nat} {x : Int} (h : x ∈ zdV ops a) : 0 ≤ x ∧ x < (a : Int):=by
 obtain ⟨k,rfl,b⟩:=zkA.1 h;unfold onB at b;simp only [yb,decide_eq_true_eq] at b;exact ⟨by omega,by have:=b.1; omega⟩
def ints (n : Nat) : List Int:=(yi n).map yY
theorem zpK {n : Nat} {x : Int} : x ∈ ints n ↔ 0 ≤ x ∧ x < (n : Int):=by
 unfold ints;rw [yB];constructor
 ·rintro ⟨k,a,rfl⟩
  have:=yj.1 a;exact ⟨by show (0 : Int) ≤ (k : Int); omega,by show (k : Int) < _; omega⟩
 ·rintro ⟨c,b⟩
  exact ⟨x.toNat,yj.2 (by omega),by show (x.toNat : Int) = x; omega⟩
theorem zDj (n : Nat) : (ints n).length = n:=by simp [ints]
theorem zyR (n : Nat) : (ints n).Nodup:=by
 unfold ints;refine List.Pairwise.map (R:=(· ≠ ·)) _ (fun x y h e => h ?_) List.nodup_range;exact Int.ofNat.inj e
theorem zAr (n : Nat) : ints (n + 1) = ints n ++ [(n : Int)]:=by simp [ints,yR]
theorem zjj : ∀ (n : Nat) (l : List Int),l.length = n → (∀ i : Nat,i < n → (i : Int) ∈ l) → l.Perm (ints n)
 | 0,l,h,_ => by
   rw [List.eq_nil_of_length_eq_zero h];exact List.Perm.refl _
 | n + 1,l,h,hm => by
   have a:=hm n (yK n);have p:=List.perm_cons_erase a;have b : (l.erase (n : Int)).length = n:=(by rw [yx a]; omega);have c:=zjj n (l.erase (n : Int)) b fun i d => (yF (by omega)).2 (hm i (by omega));rw [zAr];exact p.trans ((List.Perm.cons _ c).trans (List.perm_append_singleton _ _).symm)
theorem zjG {n : Nat} {l : List Int} (h : l.length = n) (hd : l.Nodup) (c : ∀ x ∈ l,0 ≤ x ∧ x < (n : Int)) : l.Perm (ints n):=by
 refine zjj n l h fun i d => ?_;refine Classical.byContradiction fun b => ?_
 have:=ziV (l:=(i : Int) :: l) (n:=n) (List.nodup_cons.2 ⟨b,hd⟩) fun x a => by
  rcases yf.1 a with rfl | a
  ·exact ⟨by omega,by omega⟩
  ·exact c x a
 simp only [ye] at this;omega
theorem zrF : ∀ (n : Nat) (l : List Int),(∀ i : Nat,i < n → (i : Int) ∈ l) → n ≤ l.length
 | 0,l,_ => yZ _
 | n + 1,l,hm => by
   have a:=hm n (yK n);have b:=yx a;have d:=List.length_pos_of_mem a;have c:=zrF n (l.erase (n : Int)) fun i e => (yF (by omega)).2 (hm i (by omega));omega
def zgL (on : List (List Int)) (n : Nat) : List Int → List Int → Bool
 | _,[] => true
 | done,x :: r => (decide (0 ≤ x) && (decide (x < (n : Int)) && (!decide (x ∈ done) && (on.getD x.toNat []).all fun y => decide (y ∈ done)))) && zgL on n (done ++ [x]) r
def zrB (b : PBlock) (order : List Int) : Bool:=decide (order.length = b.ops.length) && zgL (zdv b) b.ops.length [] order
def znA (ops : List POp) (order : List Int) : Bool :=
 decide (order.length = ops.length) && (((yi order.length).all fun (i : Nat) => decide ((i : Int) ∈ order)) && (yi order.length).all fun i => (yi order.length).all fun k => !(decide (i < k) && onB ops (order.getD i 0).toNat (order.getD k 0).toNat))
theorem zoY (on : List (List Int)) (n : Nat) : ∀ (order done : List Int),zgL on n done order = true ↔ ∀ i (a : i < order.length),0 ≤ order[i] ∧ order[i] < (n : Int) ∧ order[i] ∉ done ++ order.take i ∧ ∀ y ∈ on.getD order[i].toNat [],y ∈ done ++ order.take i
 | [],done => by simp [zgL]
 | x :: r,done => by
   rw [zgL,yb,zoY on n r (done ++ [x])];simp only [yb,decide_eq_true_eq,yL,decide_eq_false_iff_not,yo];constructor
   ·rintro ⟨⟨e,b,c,f⟩,d⟩ i a
    cases i with
    | zero => simpa using ⟨e,b,c,f⟩
    | succ i =>
      have:=d i (by simpa using a);simpa [yn] using this
   ·intro h
    refine ⟨?_,fun i a => ?_⟩
    ·have:=h 0 (by simp)
     simpa using this
    ·have:=h (i + 1) (by simpa using a)
     simpa [yn] using this
theorem zor {l : List Int} : l.Nodup ↔ ∀ i (b : i < l.length),l[i] ∉ l.take i:=by
 constructor
 ·intro h i b hm
  obtain ⟨j,a,e⟩:=yl.1 hm;simp only [yC] at a;rw [yz] at e;have:=(List.getElem_inj (h₀:=by omega) (h₁:=b) h).1 e;omega
 ·intro h
  unfold List.Nodup;rw [List.pairwise_iff_getElem];intro i j b a c e;refine h j a (yl.2 ⟨i,by simp only [yC]; omega,?_⟩);rw [yz]; exact e
structure LegalP (ops : List POp) (order : List Int) : Prop where
 perm : order.Perm (ints ops.length)
 ahead : ∀ i k (hi : i < order.length) (hk : k < order.length),i < k → onB ops order[i].toNat order[k].toNat = false
theorem LegalP.len {ops : List POp} {order : List Int} (h : LegalP ops order) : order.length = ops.length:=by rw [h.perm.length_eq,zDj]
theorem LegalP.nodup {ops : List POp} {order : List Int} (h : LegalP ops order) : order.Nodup:=h.perm.nodup_iff.2 (zyR _)
theorem LegalP.range {ops : List POp} {order : List Int} (h : LegalP ops order) : ∀ x ∈ order,0 ≤ x ∧ x < (ops.length : Int):=fun x a => zpK.1 (h.perm.mem_iff.1 a)
theorem LegalP.all {ops : List POp} {order : List Int} (h : LegalP ops order) {x : Int} (b : 0 ≤ x) (a : x < (ops.length : Int)) : x ∈ order:=h.perm.mem_iff.2 (zpK.2 ⟨b,a⟩)
theorem zr2 {ops : List POp} {order : List Int} : znA ops order = true ↔ LegalP ops order:=by
 unfold znA;simp only [yb,decide_eq_true_eq,yo,yj,yL,Bool.and_eq_false_iff,decide_eq_false_iff_not];have e : ∀ j (f : j < order.length),order.getD j 0 = order[j]:=fun j f => by rw [ya,yd f]; rfl
 constructor
 ·rintro ⟨m,g,l⟩
  refine ⟨?_,fun i k a b d => ?_⟩
  ·rw [← m]
   exact zjj _ _ rfl g
  ·rcases l i a k b with h | h
   ·exact absurd d h
   ·rwa [e i a,e k b] at h
 ·intro h
  refine ⟨h.len,fun i a => h.all (by omega) (by have:=h.len; omega),fun i a k b => ?_⟩
  by_cases c : i < k
  ·right; rw [e i a,e k b]; exact h.ahead i k a b c
  ·exact .inl c
theorem getD_map {α : Type} (g : Nat → List α) (n k : Nat) (a : k < n) : ((yi n).map g).getD k [] = g k:=by
 rw [ya,yA,yH a]; rfl
theorem zrN {ops : List POp} {order : List Int} (p : order.length = ops.length) : zgL ((yi ops.length).map (zdV ops)) ops.length [] order = true ↔ LegalP ops order:=by
 rw [zoY];simp only [List.nil_append];constructor
 ·intro h
  have t : order.Nodup:=zor.2 fun i a => (h i a).2.2.1
  have n : ∀ x ∈ order,0 ≤ x ∧ x < (ops.length : Int):=fun x u => by
   obtain ⟨i,a,rfl⟩:=yl.1 u;exact ⟨(h i a).1,(h i a).2.1⟩
  refine ⟨zjG p t n,fun i k a g q => ?_⟩
  cases c : onB ops order[i].toNat order[k].toNat with
  | false => rfl
  | true =>
    exfalso;obtain ⟨f,l,w,m⟩:=h i a;rw [getD_map _ _ _ (by omega)] at m;have s:=(n order[k] (ym g)).1;have hm:=m order[k] (zkA.2 ⟨order[k].toNat,by omega,c⟩);exact (h k g).2.2.1 (yG (i:=i) (by rw [yT,yN (by omega)]; exact hm))
 ·intro h i a
  obtain ⟨f,l⟩:=h.range _ (ym a);refine ⟨f,l,zor.1 h.nodup i a,fun y b => ?_⟩;rw [getD_map _ _ _ (by omega)] at b;obtain ⟨o,v⟩:=zpx b;obtain ⟨j,r,rfl⟩:=yl.1 (h.all o (by omega));obtain ⟨k,e,d⟩:=zkA.1 b;rcases Nat.lt_trichotomy j i with c | rfl | c
  ·exact yl.2 ⟨j,by simp only [yC]; omega,by rw [yz]⟩
  ·omega
  ·have:=h.ahead i j a r c
   rw [← e,yv,d] at this;cases this
theorem zuZ {b : PBlock} (a : OneDef b.ops) (order : List Int) : zrB b order = znA b.ops order:=by
 rw [yQ,zr2];unfold zrB;rw [yb,decide_eq_true_eq,zjW a];exact ⟨fun ⟨h,k⟩ => (zrN h).1 k,fun h => ⟨h.len,(zrN h.len).2 h⟩⟩
theorem ztg {b : PBlock} (a : OneDef b.ops) {order : List Int} : zrB b order = true ↔ LegalP b.ops order:=by rw [zuZ a,zr2]
def zfv (on : List (List Int)) (out : List Int) (a : Nat) : Bool:=!decide ((a : Int) ∈ out) && (on.getD a []).all fun y => decide (y ∈ out)
def zhs (on : List (List Int)) (ops : List POp) (want : Bool) (out : List Int) : Option Nat:=(yi ops.length).find? fun a => (decide (pure (ops.getD a op0).kind = want) && zfv on out a)
def zde (on : List (List Int)) (ops : List POp) (out : List Int) : Option Nat:=(zhs on ops true out).or (zhs on ops false out)
def ze4 (on : List (List Int)) (ops : List POp) : Nat → List Int → List Int
 | 0,out => out
 | d + 1,out => match zde on ops out with
   | some a => ze4 on ops d (out ++ [(a : Int)])
   | none => out
def znF (b : PBlock) : List Int:=ze4 (zdv b) b.ops b.ops.length []
theorem znT {on : List (List Int)} {ops : List POp} {out : List Int} {a : Nat} (h : zde on ops out = some a) : a < ops.length ∧ zfv on out a = true:=by
 unfold zde at h;rw [Option.or_eq_some_iff] at h
 have key : ∀ w,zhs on ops w out = some a → a < ops.length ∧ zfv on out a = true:=fun w hw => by
  unfold zhs at hw;have b:=List.find?_some hw;have c:=List.mem_of_find?_eq_some hw;rw [yb] at b;exact ⟨yj.1 c,b.2⟩
 rcases h with h | ⟨_,h⟩
 ·exact key _ h
 ·exact key _ h
theorem zyL {on : List (List Int)} {ops : List POp} {out : List Int} (h : zde on ops out = none) : ∀ a,a < ops.length → zfv on out a = false:=by
 intro a d;unfold zde at h;rw [Option.or_eq_none_iff] at h;unfold zhs at h;rw [yI,yI] at h;have e:=h.1 a (yj.2 d);have b:=h.2 a (yj.2 d);cases c : pure (ops.getD a op0).kind
 ·rw [c] at b; simpa using b
 ·rw [c] at e; simpa using e
structure OutIs (ops : List POp) (out : List Int) : Prop where
 nodup : out.Nodup
 range : ∀ x ∈ out,0 ≤ x ∧ x < (ops.length : Int)
 ahead : ∀ i (hi : i < out.length),∀ y ∈ zdV ops out[i].toNat,y ∈ out.take i
theorem OutIs.le {ops : List POp} {out : List Int} (h : OutIs ops out) : out.length ≤ ops.length:=ziV h.nodup h.range
theorem zuG {ops : List POp} {out : List Int} {a : Nat} (b : a < ops.length) : zfv ((yi ops.length).map (zdV ops)) out a = true ↔ (a : Int) ∉ out ∧ ∀ y ∈ zdV ops a,y ∈ out:=by
 unfold zfv;rw [getD_map _ _ _ b];simp
theorem OutIs.step {ops : List POp} {out : List Int} (h : OutIs ops out) {a : Nat} (k : a < ops.length) (g : zfv ((yi ops.length).map (zdV ops)) out a = true) : OutIs ops (out ++ [(a : Int)]):=by
 obtain ⟨j,f⟩:=(zuG k).1 g;refine ⟨?_,fun x b => ?_,fun i l y d => ?_⟩
 ·rw [List.nodup_append]
  refine ⟨h.nodup,by simp,fun x b y d e => ?_⟩;rw [yu.1 d] at e;exact j (e ▸ b)
 ·rcases yh.1 b with b | b
  ·exact h.range x b
  ·rw [yu.1 b]; omega
 ·by_cases c : i < out.length
  ·rw [List.getElem_append_left c] at d
   have:=h.ahead i c y d;rw [List.take_append_of_le_length (by omega)];exact this
  ·have e : i = out.length:=by simp at l; omega
   subst e;rw [List.getElem_append_right (y0 _)] at d;simp only [yX,List.getElem_singleton,yv] at d;rw [yU];exact f y d
theorem zsb {ops : List POp} {out : List Int} (h : OutIs ops out) (j : out.length < ops.length) : ∃ a,zde ((yi ops.length).map (zdV ops)) ops out = some a:=by
 cases e : zde ((yi ops.length).map (zdV ops)) ops out with
 | some a => exact ⟨a,rfl⟩
 | none =>
   exfalso;have c:=zyL e
   have key : ∀ a,a < ops.length → (a : Int) ∈ out:=by
    intro a
    induction a using Nat.strongRecOn with
    | ind a ih =>
      intro b;refine Classical.byContradiction fun d => ?_;have:=c a b;rw [(zuG b).2 ⟨d,fun y f => ?_⟩] at this
      ·cases this
      ·obtain ⟨i,g⟩:=zpx f
       have:=ih y.toNat (by omega) (by omega)
       rwa [show ((y.toNat : Nat) : Int) = y by omega] at this
   have:=zrF ops.length out key;omega
theorem zBq {ops : List POp} : ∀ (d : Nat) (out : List Int),OutIs ops out → out.length + d = ops.length → OutIs ops (ze4 ((yi ops.length).map (zdV ops)) ops d out) ∧ (ze4 ((yi ops.length).map (zdV ops)) ops d out).length = ops.length
 | 0,out,h,hl => ⟨h,by rw [ze4]; omega⟩
 | d + 1,out,h,hl => by
   obtain ⟨a,b⟩:=zsb h (by omega);rw [ze4,b];obtain ⟨e,c⟩:=znT b;exact zBq d _ (h.step e c) (by simp; omega)
theorem OutIs.legal {ops : List POp} {out : List Int} (h : OutIs ops out) (d : out.length = ops.length) : LegalP ops out:=by
 refine ⟨zjG d h.nodup h.range,fun i k e a b => ?_⟩
 cases c : onB ops out[i].toNat out[k].toNat with
 | false => rfl
 | true =>
   exfalso;have f:=(h.range _ (ym a)).1;have hm:=h.ahead i e out[k] (zkA.2 ⟨out[k].toNat,by omega,c⟩);exact zor.1 h.nodup k a (yG (i:=i) (by rw [yT,yN (by omega)]; exact hm))
theorem zvu (ops : List POp) : OutIs ops []:=⟨List.nodup_nil,fun _ h => by simp at h,fun i a => by simp at a⟩
theorem zxx {b : PBlock} (a : OneDef b.ops) : OutIs b.ops (znF b) ∧ (znF b).length = b.ops.length:=by
 unfold znF;rw [zjW a];exact zBq _ _ (zvu _) (by simp)
def zaD (out : List Int) (l : List Int) : Int:=l.foldl (fun n k => max n (out.getD k.toNat 0 + 1)) 0
def zdy : List Int → List (List Int) → List Int
 | out,[] => out
 | out,l :: r => zdy (out ++ [zaD out l]) r
def zhi (b : PBlock) : List Int:=zdy [] (zdv b)
theorem zlQ : ∀ (r : List (List Int)) (out : List Int),(zdy out r).length = out.length + r.length
 | [],out => rfl
 | l :: r,out => by rw [zdy,zlQ r]; simp only [yw,ye,List.length_nil]; omega
theorem zp4 : ∀ (r : List (List Int)) (out : List Int),∃ t,zdy out r = out ++ t
 | [],out => ⟨[],by simp [zdy]⟩
 | l :: r,out => by
   obtain ⟨t,h⟩:=zp4 r (out ++ [zaD out l]);exact ⟨zaD out l :: t,by rw [zdy,h,yn]; rfl⟩
theorem znh {out out' : List Int} {a : Nat} (h : out = out'.take a) : ∀ (l : List Int) (n : Int),(∀ k ∈ l,0 ≤ k ∧ k < (a : Int)) → l.foldl (fun n k => max n (out.getD k.toNat 0 + 1)) n = l.foldl (fun n k => max n (out'.getD k.toNat 0 + 1)) n
 | [],_,_ => rfl
 | k :: l,n,hk => by
   rw [yt,yt];have c:=hk k yc
   have e : out.getD k.toNat 0 = out'.getD k.toNat 0:=by
    rw [h,ya,ya,List.getElem?_take_of_lt (by omega)]
   rw [e];exact znh h l _ fun x b => hk x (yg _ b)
theorem zrI : ∀ (r : List (List Int)) (out : List Int),(∀ i l,r[i]? = some l → ∀ k ∈ l,0 ≤ k ∧ k < ((out.length + i : Nat) : Int)) → ∀ i l,r[i]? = some l → (zdy out r)[out.length + i]? = some (zaD (zdy out r) l)
 | [],_,_,i,l,h => by simp at h
 | l0 :: r,out,hr,i,l,h => by
   rw [zdy]
   cases i with
   | zero =>
     simp only [yy,Option.some.injEq] at h;subst h;obtain ⟨t,d⟩:=zp4 r (out ++ [zaD out l0]);have b:=hr 0 l0 rfl
     have e : zaD (zdy (out ++ [zaD out l0]) r) l0 = zaD out l0:=by
      have:=znh (out:=out) (out':=zdy (out ++ [zaD out l0]) r) (a:=out.length) (by rw [d,yn,yU]) l0 0 (fun k h => by simpa using b k h);exact this.symm
     rw [e,d,yV,yn,List.getElem?_append_right (y0 _),yX];rfl
   | succ i =>
     have c:=zrI r (out ++ [zaD out l0]) (fun j l' f k b => by
      have:=hr (j + 1) l' (by simpa using f) k b;rw [yw,yD]
      omega) i l (by simpa using h)
     rw [yw,yD] at c;rw [← c]
     congr 1
     omega
theorem zsA {g : Int → Int} : ∀ (l : List Int) (n : Int),n ≤ l.foldl (fun n k => max n (g k)) n ∧ ∀ k ∈ l,g k ≤ l.foldl (fun n k => max n (g k)) n
 | [],n => ⟨yO _,fun _ h => by simp at h⟩
 | x :: l,n => by
   obtain ⟨c,b⟩:=zsA (g:=g) l (max n (g x));rw [yt];refine ⟨by omega,fun k a => ?_⟩;rcases yf.1 a with rfl | a
   ·omega
   ·exact b k a
theorem zso {g : Int → Int} : ∀ (l : List Int) (n : Int),l.foldl (fun n k => max n (g k)) n = n ∨ ∃ k ∈ l,l.foldl (fun n k => max n (g k)) n = g k
 | [],n => .inl rfl
 | x :: l,n => by
   rw [yt];rcases zso (g:=g) l (max n (g x)) with h | ⟨k,a,h⟩
   ·rcases Int.le_total n (g x) with c | c
    ·exact .inr ⟨x,yc,by rw [h]; omega⟩
    ·exact .inl (by rw [h]; omega)
   ·exact .inr ⟨k,yg _ a,h⟩
theorem zD4 {b : PBlock} (f : OneDef b.ops) {a : Nat} (g : a < b.ops.length) : (zhi b)[a]? = some (zaD (zhi b) (zdV b.ops a)):=by
 unfold zhi;rw [zjW f]
 have:=zrI ((yi b.ops.length).map (zdV b.ops)) [] (fun i l h k d => by
  rw [yA] at h
  cases c : (yi b.ops.length)[i]? with
  | none => rw [c] at h; cases h
  | some j =>
    rw [c] at h
    have e : j = i:=by
     have:=(yp.1 c).2;simpa using this.symm
    simp only [Option.map_some,Option.some.injEq] at h;subst h; subst e
    simpa using zpx d) a (zdV b.ops a) (by rw [yA,yH g]; rfl)
 simpa using this
theorem zAU (b : PBlock) : (zhi b).length = b.ops.length:=by
 unfold zhi zdv;rw [zlQ,zhe];simp
end AC

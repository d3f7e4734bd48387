/- A part of the proof of SchedFlat. Conditions: none. -/
import Derived.Test.YtmkncmffaaninaaGreatFBH
import Derived.Test.YtmkncmffaaninaaGreatFBE
import Derived.Test.YtmkncmffaaninaaGreatFBA
set_option linter.all false
open List renaming getD_eq_getElem?_getD → ya,getElem?_eq_getElem → yc,mem_cons_self → yd,mem_cons → ye,length_cons → yf,mem_append → yg,mem_range → yh,range → yi,pairwise_cons → yj,mem_cons_of_mem → yk,mem_iff_getElem → yl,getElem_mem → ym,all_eq_true → yn,mem_filter → yp,mem_singleton → yr,length_erase_of_mem → yt,getElem_take → yu,mem_map → yv,length_take → yw,find?_cons → yx,mem_erase_of_ne → yy,mem_of_mem_take → yz,find?_eq_none → yA,all_cons → yB,append_assoc → yE,filter_cons → yF,all_map → yH,range_succ → yJ,take_take → yL
open Bool renaming and_eq_true → yb,or_eq_true → yo,not_eq_true' → yD,eq_iff_iff → yI
open Nat renaming lt_succ_iff_lt_or_eq → yq,lt_succ_self → yC,min_eq_left → yG,zero_add → yM,zero_le → yP
open Int renaming toNat_natCast → ys,lt_irrefl → yK,ofNat → yN,le_refl → yO
open Iff renaming rfl → yQ
namespace AC
open Go Go.A Go.A.Lex
open Dm
theorem zDe {f : PFunc} (hf : okF f) (h : zay f = true) : ∃ (t : List Int) (O : Int → Prop) (pos : Int → Nat),TreeOf (zp f) ((0 : Nat) : Int) O pos t ∧ zto f (t.set 0 (-1)):=by
 have hm:=zfo h;obtain ⟨j,n64,i⟩:=zez hm;obtain ⟨o,d,tail,t,O,pos,e,b,g,k,c,Q,l⟩:=zDt hm (root:=0) (by omega);refine ⟨t,O,pos,Q,?_,fun _ => ?_⟩
 ·rw [zk7 Q]; omega
 ·have a : zAM (zp f) (zN (zp f)) = true:=by unfold zAM; rw [hm]; simp
  exact zzd (zp f) (zN (zp f)) (zin hf) a 0 (by omega) 200 (by omega) o e d tail b g (by omega) 200 5000 t c
theorem zsj (f : PFunc) (hf : okF f) : ∃ tree,zto f tree ∧ (zay f = true → ∃ (t : List Int) (O : Int → Prop) (pos : Int → Nat),TreeOf (zp f) ((0 : Nat) : Int) O pos t ∧ tree = t.set 0 (-1)):=by
 cases c : zay f
 ·exact ⟨[],⟨by simp,fun h => by rw [c] at h; cases h⟩,fun h => by cases h⟩
 ·obtain ⟨t,O,pos,Q,a⟩:=zDe hf c
  exact ⟨_,a,fun _ => ⟨t,O,pos,Q,rfl⟩⟩
noncomputable def zCU (f : PFunc) : List Int:=open Classical in if h : okF f then (zsj f h).choose else []
theorem zDU {f : PFunc} (hf : okF f) : zto f (zCU f):=by
 unfold zCU;rw [dif_pos hf];exact (zsj f hf).choose_spec.1
theorem zC0 {f : PFunc} (hf : okF f) (h : zay f = true) : ∃ (t : List Int) (O : Int → Prop) (pos : Int → Nat),TreeOf (zp f) ((0 : Nat) : Int) O pos t ∧ zCU f = t.set 0 (-1):=by
 unfold zCU;rw [dif_pos hf];exact (zsj f hf).choose_spec.2 h
theorem zwP (f : PFunc) (hf : okF f) (level : Int) : call T 51 [zfZ f,vI level] [] = some (vI (zpx f level (zCU f)),[]):=zwC f hf level _ (zDU hf)
section
variable {f : PFunc} (hf : okF f) (hg : zay f = true) {t : List Int} {O : Int → Prop} {pos : Int → Nat} (Q : TreeOf (zp f) ((0 : Nat) : Int) O pos t)
include hg Q
theorem zk2 : ∀ (l : List PBlock) (i : Nat),zd1 (zN (zp f)) (t.set 0 (-1)) i l = zbo (zN (zp f)) (zdq (zp f) 0 (-1)) i l
 | [],_ => rfl
 | b :: l,i => by
   rw [zd1,zbo,zk2 l (i + 1),zq1,zjK]
   congr 1
   have e : zkR (t.set 0 (-1)) (i : Int) (i : Int) = (zdq (zp f) 0 (-1)).getD i false:=by
    rw [yI];have c:=zBT Q (i : Int) (i : Int);have a:=zum (zfo hg) Q i;rw [c];exact ⟨fun h => a.2 h.1,fun h => ⟨a.1 h,a.1 h,zCC _⟩⟩
   rw [e,Bool.and_comm (b.phis.all _)]
theorem zwO : zhc f (t.set 0 (-1)) = zgb f:=by
 unfold zhc zgb;rw [zk2 hg Q]
end
theorem zkL (ask : Use → Int) (c : Int) (b : c ≠ 0) : ∀ l : List Use,(∀ u ∈ l,ask u = 0 ∨ ask u = c) → zW ask l = if l.all (fun u => decide (ask u = 0)) = true then 0 else c
 | [],_ => rfl
 | u :: l,h => by
   have d:=zkL ask c b l fun x e => h x (yk _ e);rw [zW,yB];rcases h u yd with a | a
   ·rw [if_pos a,d,a]
    simp
   ·rw [if_neg (by rw [a]; exact b),a]
    simp [b]
theorem zm6 {l : List Use} {p q : Use → Bool} (h : ∀ u ∈ l,p u = q u) : l.all p = l.all q:=by
 induction l with
 | nil => rfl
 | cons x l ih => rw [yB,yB,h x yd,ih fun y a => h y (yk _ a)]
theorem zkC (defs : List Use) (v : Int) : ∀ (k : Nat),(zj v k defs < 0 ↔ (lk defs v).isNone = true) ∧ (0 ≤ zj v k defs → defs[(zj v k defs - k).toNat]? = defs.find? (fun u => decide (u.v = v))):=by
 induction defs with
 | nil => intro k; simp [zj,lk]
 | cons u r ih =>
   intro k;obtain ⟨a,b⟩:=ih (k + 1);rw [zj]
   by_cases c : u.v = v
   ·rw [if_pos c]
    constructor
    ·constructor
     ·intro h; omega
     ·intro h
      exact absurd c (zm8.1 h u yd)
    ·intro _
     rw [Int.sub_self,yx,decide_eq_true c];rfl
   ·rw [if_neg c]
    have e : lk (u :: r) v = lk r v:=(by unfold lk; rw [yx,decide_eq_false c]);rw [e];refine ⟨a,fun h => ?_⟩;have:=b h;have d:=zi4 v r (k + 1) h;rw [yx,decide_eq_false c,← this];rw [show (zj v (k + 1) r - (k : Int)).toNat = (zj v (k + 1) r - ((k + 1 : Nat) : Int)).toNat + 1 by omega,List.getElem?_cons_succ]
theorem zA0 {defs : List Use} {v : Int} {p : PDef} (h : lk defs v = some p) : toP (zhZ defs v) = p:=by
 obtain ⟨a,b⟩:=zkC defs v 0
 have d : 0 ≤ zj v 0 defs:=by
  by_cases c : zj v 0 defs < 0
  ·have:=a.1 c
   rw [h] at this;cases this
  ·omega
 have:=b d;rw [show zj v 0 defs - ((0 : Nat) : Int) = zj v 0 defs by omega] at this;unfold lk at h
 cases e : defs.find? (fun u => decide (u.v = v)) with
 | none => rw [e] at h; cases h
 | some x =>
   rw [e] at h this;unfold zhZ;rw [ya,this];simpa using h
theorem zmM (p : PPhi) : ∀ (l : List Int) (k : Nat),k + l.length ≤ p.src.length → ∀ u ∈ zF p k l,u.block ∈ p.src ∧ u.at' = 1048576
 | [],_,_ => by simp [zF]
 | v :: l,k,h => by
   simp only [yf] at h;intro u hu;rw [zF] at hu;rcases ye.1 hu with rfl | hu
   ·refine ⟨?_,rfl⟩
    show p.src.getD k 0 ∈ p.src
    rw [ya,yc (by omega)];exact ym _
   ·exact zmM p l (k + 1) (by omega) u hu
theorem znM (o : POp) (i at' : Int) : ∀ (l : List (Int × Int)) (k : Nat),∀ u ∈ zQ o i at' k l,u.block = i ∧ u.at' = at'
 | [],_ => by simp [zQ]
 | s :: l,k => by
   intro u hu;rw [zQ] at hu;rcases ye.1 hu with rfl | hu
   ·exact ⟨rfl,rfl⟩
   ·exact znM o i at' l (k + 1) u hu
theorem zmH (i : Int) : ∀ (l : List POp) (k : Nat),∀ u ∈ zu i k l,u.block = i ∧ 0 ≤ u.at' ∧ u.at' < ((k + l.length : Nat) : Int)
 | [],_ => by simp [zu]
 | o :: l,k => by
   intro u hu;rw [zu] at hu;rcases yg.1 hu with hu | hu
   ·obtain ⟨a,b⟩:=znM o i (k : Int) _ 0 u hu
    simp only [yf];exact ⟨a,by omega,by omega⟩
   ·obtain ⟨a,b,c⟩:=zmH i l (k + 1) u hu
    simp only [yf];exact ⟨a,b,by omega⟩
theorem zlQ (pred : List (List Int)) (reach : List Bool) : ∀ (l : List PBlock) (i : Nat),zbo pred reach i l = true → ∀ k b,l[k]? = some b → zjK pred reach (i + k) b = true
 | [],_,_ => by simp
 | b :: l,i,h => by
   rw [zbo,yb] at h;intro k c a
   cases k with
   | zero =>
     simp only [List.getElem?_cons_zero,Option.some.injEq] at a;subst a;exact h.1
   | succ k =>
     have:=zlQ pred reach l (i + 1) h.2 k c (by simpa using a)
     rwa [show i + 1 + k = i + (k + 1) by omega] at this
theorem zk5 (f : PFunc) (P : Int → Prop) : ∀ (l : List PBlock) (k : Nat),(∀ j b,l[j]? = some b → P ((k + j : Nat) : Int) ∧ b.ops.length ≤ 1000 ∧ ∀ p ∈ b.phis,p.args.length = p.src.length ∧ ∀ x ∈ p.src,P x) → ∀ u ∈ zaC f k l,P u.block ∧ (u.at' = 1048576 ∨ (0 ≤ u.at' ∧ u.at' < 1000))
 | [],_,_ => by simp [zaC]
 | b :: l,k,h => by
   intro u hu;obtain ⟨a,i,n⟩:=h 0 b rfl;rw [Nat.add_zero] at a;rw [zaC,zg2] at hu;rcases yg.1 hu with hu | hu
   ·rcases yg.1 hu with hu | hu
    ·unfold zam at hu
     rw [List.mem_flatMap] at hu;obtain ⟨p,g,hu⟩:=hu;obtain ⟨e1,e2⟩:=n p g;obtain ⟨e,d⟩:=zmM p p.args 0 (by omega) u hu;exact ⟨e2 _ e,.inl d⟩
    ·rcases yg.1 hu with hu | hu
     ·obtain ⟨e,d,o⟩:=zmH (k : Int) b.ops 0 u hu
      rw [e];exact ⟨a,.inr ⟨d,by omega⟩⟩
     ·unfold zbp at hu
      split at hu
      ·simp at hu
      ·rw [yr.1 hu]
       exact ⟨a,.inl rfl⟩
   ·exact zk5 f P l (k + 1) (fun j c m => by
    have:=h (j + 1) c (by simpa using m)
    rwa [show k + (j + 1) = k + 1 + j by omega] at this) u hu
theorem zjx (i : Int) : ∀ (l : List POp) (k : Nat),∀ u ∈ zcX i k l,u.block = i ∧ 0 ≤ u.at' ∧ u.at' < ((k + l.length : Nat) : Int)
 | [],_ => by simp [zcX]
 | o :: l,k => by
   intro u hu;rw [zcX] at hu;simp only [yf];split at hu
   ·rcases ye.1 hu with rfl | hu
    ·exact ⟨rfl,by show (0 : Int) ≤ (k : Int); omega,by show (k : Int) < _; omega⟩
    ·obtain ⟨a,b,c⟩:=zjx i l (k + 1) u hu
     exact ⟨a,b,by omega⟩
   ·obtain ⟨a,b,c⟩:=zjx i l (k + 1) u hu
    exact ⟨a,b,by omega⟩
theorem zji : ∀ (l : List PBlock) (k : Nat),(∀ b ∈ l,b.ops.length ≤ 1000) → ∀ u ∈ zX k l,(k : Int) ≤ u.block ∧ u.block < ((k + l.length : Nat) : Int) ∧ u.at' < 1000
 | [],_,_ => by simp [zX]
 | b :: l,k,h => by
   intro u hu;have g:=h b yd;simp only [yf];rw [zX] at hu;rcases yg.1 hu with hu | hu
   ·unfold zcZ at hu
    obtain ⟨p,_,rfl⟩:=yv.1 hu;exact ⟨yO _,by show (k : Int) < _; omega,by show (-1 : Int) < 1000; omega⟩
   ·rcases yg.1 hu with hu | hu
    ·obtain ⟨d,f,a⟩:=zjx (k : Int) b.ops 0 u hu
     exact ⟨by omega,by omega,by omega⟩
    ·obtain ⟨d,f,a⟩:=zji l (k + 1) (fun c e => h c (yk _ e)) u hu
     exact ⟨by omega,by omega,a⟩
theorem zjH : ∀ (l : List Int) (k : Nat),∀ u ∈ zaO k l,u.block = -1 ∧ u.at' = 0
 | [],_ => by simp [zaO]
 | b :: l,k => by
   intro u hu;rw [zaO] at hu;rcases ye.1 hu with rfl | hu
   ·exact ⟨rfl,rfl⟩
   ·exact zjH l (k + 1) u hu
theorem zpD {f : PFunc} (h : zh8 f ≤ 512) : ∀ b ∈ f.blocks,b.ops.length ≤ 1000:=fun b c => by
 have key : ∀ l : List PBlock,b ∈ l → b.phis.length + b.ops.length ≤ (l.map fun b => b.phis.length + b.ops.length).sum:=by
  intro l
  induction l with
  | nil => intro h; cases h
  | cons a l ih =>
    intro h;simp only [List.map_cons,List.sum_cons];rcases ye.1 h with rfl | h
    ·omega
    ·have:=ih h; omega
 have:=key _ c;unfold zh8 at h;omega
theorem zzP {f : PFunc} (hf : okF f) (level : Int) (hm : zlU f = true) : zlz f level (zCU f) = zac f level ∨ level < 0 ∨ 2 < level:=by
 by_cases s : level < 0 ∨ 2 < level
 ·exact .inr s
 left;unfold zlz zac;have B : ¬ zlU f = false:=by simp [hm]
 have tf : ¬ (true = false):=by simp
 have E : false = false:=rfl;rw [if_neg s,if_neg B,if_neg B];cases hg : zay f
 ·have e1 : zhc f (zCU f) = false:=by unfold zhc; rw [hg]; rfl
  have e2 : zgb f = false:=by unfold zgb; rw [hg]; rfl
  rw [if_pos e1,if_pos e2]
 obtain ⟨t,O,pos,Q,P⟩:=zC0 hf hg;have m:=zfo hg;rw [P,zwO hg Q];cases L : zgb f
 ·rw [if_pos E,if_pos E]
 rw [if_neg tf,if_neg tf];cases ht : zfu f level
 ·rw [if_pos E,if_pos E]
 rw [if_neg tf,if_neg tf];obtain ⟨n1,n64,np,r,nb⟩:=zic hm;obtain ⟨d1,d2⟩:=zB5 (f:=f) np
 cases hd : zsh f with
 | mk D q =>
   rw [hd] at d1 d2
   cases q with
   | some x =>
     have : zfG (zL f) 0 (zL f) = false:=d1.symm;simp only;rw [if_pos this]
   | none =>
     have o : zfG (zL f) 0 (zL f) = true:=d1.symm;have R:=d2 o;simp only at R ⊢;rw [o,if_neg tf]
     have w : zbo (zN (zp f)) (zdq (zp f) 0 (-1)) 0 f.blocks = true:=by
      unfold zgb at L;rw [yb] at L;exact L.2
     have l : ∀ i : Nat,i < f.blocks.length → O (i : Int):=fun i H => by
      have:=zlQ _ _ _ _ w i _ (yc H);unfold zjK at this;rw [yb,yM] at this;exact (zum m Q i).1 this.1
     have Y:=(zez m).2.2;have aA : (zp f).length = f.blocks.length:=by simp [zp]
     have W : ∀ u ∈ zfe f,O u.block ∧ (u.at' = 1048576 ∨ (0 ≤ u.at' ∧ u.at' < 1000)):=by
      refine zk5 f O f.blocks 0 fun j b G => ?_;have hj:=(List.getElem?_eq_some_iff.1 G).1;have g:=zlQ _ _ _ _ w j b G;rw [yM] at g ⊢;unfold zjK at g;simp only [yb,yn] at g;refine ⟨l j hj,zpD r b (List.mem_of_getElem? G),fun p n => ?_⟩;have C:=g.2.2 p n;unfold zhU at C;simp only [yb,decide_eq_true_eq] at C;refine ⟨C.2,fun x S => ?_⟩;rw [C.1] at S;have:=(zmK Y (x:=(j : Int)) ⟨by omega,by omega⟩ x).1 (by rw [ys]; exact S);obtain ⟨y,K⟩ : ∃ y : Nat,(y : Int) = x:=⟨x.toNat,by have:=this.1; omega⟩;rw [← K];exact l y (by have:=this.2.1; omega)
     have I : ∀ d ∈ zL f,(d.block < 0 ∨ O d.block) ∧ d.at' < 1000:=fun d a => by
      unfold zL at a;rcases yg.1 a with a | a
      ·obtain ⟨e1,e2⟩:=zjH _ _ d a
       exact ⟨.inl (by omega),by omega⟩
      ·obtain ⟨e1,e2,e3⟩:=zji f.blocks 0 (zpD r) d a
       refine ⟨.inr ?_,e3⟩;obtain ⟨y,K⟩ : ∃ y : Nat,(y : Int) = d.block:=⟨d.block.toNat,by omega⟩;rw [← K];exact l y (by omega)
     have f1:=zkL (zk8 D) 7 (by omega) (zfe f) fun u _ => by unfold zk8; split <;> simp
     have a1 : (zfe f).all (fun u => decide (zk8 D u = 0)) = (ze2 f).all (zjS (zL f)):=by
      unfold ze2;rw [yH];refine zm6 fun u _ => ?_
      show decide (zk8 D u = 0) = zjS (zL f) (zY u)
      have e:=(zkC (zL f) u.v 0).1;unfold zk8 zjS;rw [R u.v]
      show _ = !decide (zj u.v 0 (zL f) < 0)
      by_cases c : zj u.v 0 (zL f) < 0
      ·rw [if_pos (e.1 c),decide_eq_true c]; rfl
      ·rw [if_neg (fun h => c (e.2 h)),decide_eq_false c]; rfl
     rw [f1,a1];cases b1 : (ze2 f).all (zjS (zL f))
     ·simp
     have k : ∀ u ∈ zfe f,∃ p,lk (zL f) u.v = some p:=fun u hu => by
      have:=yn.1 b1 (zY u) (List.mem_map_of_mem hu);unfold zjS at this;have e:=(zkC (zL f) u.v 0).1
      cases h : lk (zL f) u.v with
      | some p => exact ⟨p,rfl⟩
      | none =>
        have Z:=e.2 (by rw [h]; rfl);have : (!decide (zj u.v 0 (zL f) < 0)) = true:=this;rw [decide_eq_true Z] at this;cases this
     have z : ∀ u ∈ zfe f,zlT D u.v = toP (zhZ (zL f) u.v):=fun u hu => by
      obtain ⟨p,n⟩:=k u hu;unfold zlT;rw [R u.v,n,zA0 n];rfl
     have f2:=zkL (zcs D) 6 (by omega) (zfe f) fun u _ => by unfold zcs; split <;> simp
     have a2 : (zfe f).all (fun u => decide (zcs D u = 0)) = (ze2 f).all (sameShape (zL f)):=by
      unfold ze2;rw [yH];refine zm6 fun u hu => ?_
      show decide (zcs D u = 0) = sameShape (zL f) (zY u)
      unfold zcs sameShape;rw [z u hu]
      show decide ((if (zhZ (zL f) u.v).shape = u.shape then (0 : Int) else 6) = 0) = decide ((zhZ (zL f) u.v).shape = u.shape)
      by_cases c : (zhZ (zL f) u.v).shape = u.shape
      ·rw [if_pos c,decide_eq_true c]; rfl
      ·rw [if_neg c,decide_eq_false c]; rfl
     rw [f2,a2];cases b2 : (ze2 f).all (sameShape (zL f))
     ·simp
     have f3:=zkL (zaZ D (t.set 0 (-1))) 7 (by omega) (zfe f) fun u _ => by
      unfold zaZ;simp only;split
      ·simp
      ·split <;> simp
     have a3 : (zfe f).all (fun u => decide (zaZ D (t.set 0 (-1)) u = 0)) = (ze2 f).all (zgq (zL f) (zeU (zp f) 0)):=by
      have e7 : zeU (zp f) 0 = t.set 0 (-1):=zy6 m Q;rw [e7];unfold ze2;rw [yH];refine zm6 fun u hu => ?_
      show decide (zaZ D (t.set 0 (-1)) u = 0) = zgq (zL f) (t.set 0 (-1)) (zY u)
      obtain ⟨X,ua⟩:=W u hu;unfold zaZ zgq;rw [z u hu];have N : (zY u).v = u.v:=rfl;have J : (zY u).block = u.block:=rfl;rw [N,J];obtain ⟨d,a⟩ : ∃ d,d = zhZ (zL f) u.v:=⟨_,rfl⟩;rw [← a]
      have M : d ∈ zL f:=by
       obtain ⟨p,n⟩:=k u hu;have H:=zkC (zL f) u.v 0
       have h0 : 0 ≤ zj u.v 0 (zL f):=by
        by_cases c : zj u.v 0 (zL f) < 0
        ·have:=H.1.1 c
         rw [n] at this;cases this
        ·omega
       have V:=zi4 u.v (zL f) 0 h0;rw [a];unfold zhZ;rw [ya,yc (by omega)];exact ym _
      obtain ⟨db,da⟩:=I d M
      show decide ((if d.block < 0 then (0 : Int) else if (d.block = u.block ∧ d.at' < u.at') ∨ (d.block ≠ u.block ∧ zkR (t.set 0 (-1)) d.block u.block = true) then 0 else 7) = 0) = _
      by_cases c1 : d.block < 0
      ·rw [if_pos c1,decide_eq_true c1]; rfl
      ·rw [if_neg c1,decide_eq_false c1]
       have dO:=db.resolve_left c1;have A:=zAA Q dO X
       by_cases c2 : d.block = u.block
       ·have U : (d.at' < u.at') ↔ (d.at' < (zY u).at'):=by
         show _ ↔ d.at' < (if u.at' = 1048576 then 1000 else u.at')
         split <;> omega
        by_cases c3 : d.at' < u.at'
        ·rw [if_pos (.inl ⟨c2,c3⟩),decide_eq_true c2,decide_eq_true (U.1 c3)]; rfl
        ·rw [if_neg (fun h => h.elim (fun h => c3 h.2) (fun h => h.1 c2)),decide_eq_true c2,decide_eq_false (fun h => c3 (U.2 h))]; rfl
       ·rw [decide_eq_false c2]
        by_cases c4 : zkR (t.set 0 (-1)) d.block u.block = true
        ·rw [if_pos (.inr ⟨c2,c4⟩),decide_eq_true (A.2 c4)]; rfl
        ·rw [if_neg (fun h => h.elim (fun h => c2 h.1) (fun h => c4 h.2)),decide_eq_false (fun h => c4 (A.1 h))]; rfl
     rw [f3,a3];cases b3 : (ze2 f).all (zgq (zL f) (zeU (zp f) 0)) <;> simp
theorem zzS {f : PFunc} (hf : okF f) (level : Int) : zpx f level (zCU f) = zac f level:=by
 unfold zpx
 by_cases a : level < 0 ∨ 2 < level
 ·rw [if_pos a]
  unfold zac;rw [if_pos a]
 ·rw [if_neg a]
  cases hm : zlU f
  ·unfold zlz zac
   rw [if_neg a,if_pos hm,if_pos hm]
  ·exact (zzP hf level hm).resolve_right a
end AC
namespace AC
open Go Go.A
abbrev zp2:=List (Int × Int)
def zhy (D : zp2) : List Int → List Int
 | [] => []
 | v :: r => match getM v D with
   | some k => k :: zhy D r
   | none => zhy D r
def zlo (D : zp2) (imp : List Int) (o : POp) : List Int:=zn (zcc (zhy D o.args ++ if pure o.kind = true then [] else imp))
def zd9 (D : zp2) (k : Nat) (o : POp) : zp2:=if 0 < o.dst then zjr o.dst (k : Int) D else D
def zjb (imp : List Int) (k : Nat) (o : POp) : List Int:=if pure o.kind = true then imp else imp ++ [(k : Int)]
def zdo : Nat → zp2 → List Int → List POp → List (List Int)
 | _,_,_,[] => []
 | k,D,imp,o :: r => zlo D imp o :: zdo (k + 1) (zd9 D k o) (zjb imp k o) r
def zg9 (b : PBlock) : List (List Int):=zdo 0 [] [] b.ops
theorem zjf : ∀ (ops : List POp) (k : Nat) (D : zp2) (imp : List Int),(zdo k D imp ops).length = ops.length
 | [],_,_,_ => rfl
 | o :: r,k,D,imp => by rw [zdo,yf,zjf r,yf]
theorem zl3 (D : zp2) : ∀ l,(zhy D l).length ≤ l.length
 | [] => by simp [zhy]
 | v :: r => by
   rw [zhy];have:=zl3 D r;split
   ·simp only [yf]; omega
   ·simp only [yf]; omega
theorem zq7 (D : zp2) (k : Int) : ∀ l,k ∈ zhy D l ↔ ∃ v ∈ l,getM v D = some k
 | [] => by simp [zhy]
 | v :: r => by
   rw [zhy];have a:=zq7 D k r
   cases e : getM v D with
   | none => simp [a,e]
   | some j =>
     simp only [ye,a,exists_eq_or_imp,e,Option.some.injEq];exact or_congr ⟨fun h => h.symm,fun h => h.symm⟩ yQ
theorem zuX {α : Type} (k v : Int) (a : α) : ∀ S : List (Int × α),getM v (zjr k a S) = if k = v then some a else getM v S
 | [] => rfl
 | e :: r => by
   simp only [zjr]
   by_cases c : e.1 = k
   ·rw [if_pos c,getM,getM]
    by_cases d : k = v
    ·rw [if_pos d,if_pos d]
    ·rw [if_neg d,if_neg d,if_neg (fun h => d (c.symm.trans h))]
   ·rw [if_neg c,getM,getM,zuX k v a r]
    by_cases d : e.1 = v
    ·rw [if_pos d,if_pos d,if_neg (fun h => c (d.trans h.symm))]
    ·rw [if_neg d,if_neg d]
abbrev zFo (l : List Int) : Prop:=l.Pairwise (· < ·)
theorem ziR (x : Int) : ∀ l,x ∈ zn l ↔ x ∈ l
 | [] => yQ
 | [y] => yQ
 | y :: z :: r => by
   rw [zn]
   by_cases c : y = z
   ·rw [if_pos c,ziR x (z :: r),c]
    simp
   ·rw [if_neg c,ye,ziR x (z :: r),ye (l:=z :: r)]
theorem zjQ : ∀ l : List Int,l.Pairwise (· ≤ ·) → zFo (zn l)
 | [],_ => List.Pairwise.nil
 | [y],_ => by simp [zn]
 | y :: z :: r,h => by
   rw [zn];have b:=(yj.1 h).2
   by_cases c : y = z
   ·rw [if_pos c]; exact zjQ _ b
   ·rw [if_neg c]
    refine yj.2 ⟨fun x a => ?_,zjQ _ b⟩;rw [ziR] at a;have d:=(yj.1 h).1 z yd
    have e : z ≤ x:=by
     rcases ye.1 a with rfl | a
     ·exact yO _
     ·exact (yj.1 b).1 x a
    omega
theorem zCr (x : Int) (l : List Int) : x ∈ zcc l ↔ x ∈ l:=by
 unfold zcc;exact (List.mergeSort_perm l _).mem_iff
theorem zC9 (l : List Int) : (zcc l).Pairwise (· ≤ ·):=by
 unfold zcc;refine (List.pairwise_mergeSort (fun a b c d e => ?_) (fun a b => ?_) l).imp fun h => by simpa using h
 ·simp only [decide_eq_true_eq] at *; omega
 ·simp only [yo,decide_eq_true_eq]; omega
theorem zvY : ∀ {a b : List Int},zFo a → zFo b → (∀ x,x ∈ a ↔ x ∈ b) → a = b
 | [],[],_,_,_ => rfl
 | [],y :: b,_,_,h => absurd ((h y).2 yd) (by simp)
 | x :: a,[],_,_,h => absurd ((h x).1 yd) (by simp)
 | x :: a,y :: b,ha,hb,h => by
   obtain ⟨a1,a2⟩:=yj.1 ha;obtain ⟨b1,b2⟩:=yj.1 hb
   have e : x = y:=by
    rcases ye.1 ((h x).1 yd) with e | f
    ·exact e
    ·rcases ye.1 ((h y).2 yd) with e | g
     ·exact e.symm
     ·have:=a1 y g; have:=b1 x f; omega
   subst e
   congr 1
   refine zvY a2 b2 fun z => ⟨fun c => ?_,fun c => ?_⟩
   ·rcases ye.1 ((h z).1 (yk _ c)) with rfl | d
    ·exact absurd (a1 z c) (yK _)
    ·exact d
   ·rcases ye.1 ((h z).2 (yk _ c)) with rfl | d
    ·exact absurd (b1 z c) (yK _)
    ·exact d
def op0 : POp:=⟨0,0,0,0,[],0⟩
def onB (ops : List POp) (a k : Nat) : Bool:=decide (k < a) && ((decide ((ops.getD k op0).dst ≠ 0) && decide ((ops.getD k op0).dst ∈ (ops.getD a op0).args)) || (!pure (ops.getD k op0).kind && !pure (ops.getD a op0).kind))
def ziN (ops : List POp) (a : Nat) : List Int:=((yi a).filter (onB ops a)).map yN
theorem zjY {ops : List POp} {a : Nat} {x : Int} : x ∈ ziN ops a ↔ ∃ k : Nat,(k : Int) = x ∧ onB ops a k = true:=by
 unfold ziN;rw [yv];constructor
 ·rintro ⟨k,b,rfl⟩
  exact ⟨k,rfl,(yp.1 b).2⟩
 ·rintro ⟨k,rfl,b⟩
  refine ⟨k,yp.2 ⟨?_,b⟩,rfl⟩;unfold onB at b;simp only [yb,decide_eq_true_eq] at b;exact yh.2 b.1
theorem zwG (ops : List POp) (a : Nat) : zFo (ziN ops a):=by
 unfold ziN;refine List.Pairwise.map (R:=(· < ·)) _ (fun x y h => by simpa using h) ?_;exact List.Pairwise.filter _ List.pairwise_lt_range
structure OneDef (ops : List POp) : Prop where
 pos : ∀ o ∈ ops,0 ≤ o.dst
 one : ∀ i j (hi : i < ops.length) (hj : j < ops.length),0 < ops[i].dst → ops[i].dst = ops[j].dst → i = j
def zCh (ops : List POp) (k : Nat) (D : zp2) : Prop:=∀ v x,getM v D = some x ↔ ∃ j : Nat,(j : Int) = x ∧ j < k ∧ 0 < v ∧ (ops.getD j op0).dst = v
def zwK (ops : List POp) (k : Nat) : List Int:=((yi k).filter fun j => !pure (ops.getD j op0).kind).map yN
theorem zxf (ops : List POp) (k : Nat) (a : k < ops.length) : zwK ops (k + 1) = zjb (zwK ops k) k ops[k]:=by
 unfold zwK zjb;rw [yJ,List.filter_append,List.map_append];have e : ops.getD k op0 = ops[k]:=by rw [ya,yc a]; rfl
 cases c : pure ops[k].kind
 ·rw [yF,e,c]; rfl
 ·rw [yF,e,c]; simp
theorem zxg {ops : List POp} (b : OneDef ops) {k : Nat} (l : k < ops.length) {D : zp2} (h : zCh ops k D) : zCh ops (k + 1) (zd9 D k ops[k]):=by
 have e : ∀ j (m : j < ops.length),ops.getD j op0 = ops[j]:=fun j m => by rw [ya,yc m]; rfl
 intro v x;unfold zd9
 by_cases c : 0 < ops[k].dst
 ·rw [if_pos c,zuX]
  by_cases d : ops[k].dst = v
  ·rw [if_pos d]
   constructor
   ·intro n
    exact ⟨k,by simpa using n,by omega,by omega,by rw [e k l]; exact d⟩
   ·rintro ⟨j,rfl,m,o,hd⟩
    have i : j < ops.length:=(by omega);rw [e j i] at hd;have:=b.one k j l i c (by rw [d,hd]);rw [this]
  ·rw [if_neg d,h v x]
   constructor
   ·rintro ⟨j,b,g,f,a⟩
    exact ⟨j,b,by omega,f,a⟩
   ·rintro ⟨j,b,g,f,a⟩
    refine ⟨j,b,?_,f,a⟩;rcases yq.1 g with h | rfl
    ·exact h
    ·rw [e j l] at a; exact absurd a d
 ·rw [if_neg c,h v x]
  constructor
  ·rintro ⟨j,b,g,f,a⟩
   exact ⟨j,b,by omega,f,a⟩
  ·rintro ⟨j,b,g,f,a⟩
   refine ⟨j,b,?_,f,a⟩;rcases yq.1 g with h | rfl
   ·exact h
   ·rw [e j l] at a; omega
theorem zEY {ops : List POp} (m : OneDef ops) {k : Nat} (g : k < ops.length) {D : zp2} (h : zCh ops k D) : zlo D (zwK ops k) ops[k] = ziN ops k:=by
 have e : ∀ j (a : j < ops.length),ops.getD j op0 = ops[j]:=fun j a => by rw [ya,yc a]; rfl
 unfold zlo;refine zvY (zjQ _ (zC9 _)) (zwG _ _) fun x => ?_;rw [ziR,zCr,yg,zq7,zjY];constructor
 ·rintro (⟨v,n,b⟩ | b)
  ·obtain ⟨j,rfl,a,l,hd⟩:=(h v x).1 b
   refine ⟨j,rfl,?_⟩;unfold onB;rw [e k g,hd];simp only [yb,yo,decide_eq_true_eq];exact ⟨a,.inl ⟨by omega,n⟩⟩
  ·split at b
   ·simp at b
   ·rename_i c
    unfold zwK at b;obtain ⟨j,a,rfl⟩:=yv.1 b;obtain ⟨i,f⟩:=yp.1 a;refine ⟨j,rfl,?_⟩;unfold onB;rw [e k g];simp only [yb,yo,decide_eq_true_eq];exact ⟨yh.1 i,.inr ⟨f,by simpa using c⟩⟩
 ·rintro ⟨j,rfl,a⟩
  unfold onB at a;rw [e k g] at a;simp only [yb,yo,decide_eq_true_eq] at a;obtain ⟨d,a | a⟩:=a
  ·refine .inl ⟨_,a.2,(h _ _).2 ⟨j,rfl,d,?_,rfl⟩⟩
   have l:=m.pos ops[j] (ym (by omega));have o:=a.1;rw [e j (by omega)] at o ⊢;omega
  ·refine .inr ?_
   rw [if_neg (by simpa using a.2)];exact yv.2 ⟨j,yp.2 ⟨yh.2 d,a.1⟩,rfl⟩
theorem zn6 {ops : List POp} (b : OneDef ops) : ∀ (d k : Nat) (D : zp2),ops.length - k = d → k ≤ ops.length → zCh ops k D → zdo k D (zwK ops k) (ops.drop k) = (List.range' k d).map (ziN ops)
 | 0,k,D,h2,h3,_ => by
   have : ops.drop k = []:=List.drop_eq_nil_of_le (by omega);rw [this]; rfl
 | d + 1,k,D,h2,h3,h => by
   have a : k < ops.length:=(by omega);rw [List.drop_eq_getElem_cons a,zdo,zEY b a h,← zxf ops k a,zn6 b d (k + 1) _ (by omega) (by omega) (zxg b a h)];rfl
theorem zru {b : PBlock} (a : OneDef b.ops) : zg9 b = (yi b.ops.length).map (ziN b.ops):=by
 unfold zg9;have:=zn6 a b.ops.length 0 [] rfl (yP _) (fun v x => by simp [getM]);rw [List.drop_zero] at this;rw [List.range_eq_range'];exact this
theorem zwj {ops : List POp} {a : Nat} {x : Int} (h : x ∈ ziN ops a) : 0 ≤ x ∧ x < (a : Int):=by
 obtain ⟨k,rfl,b⟩:=zjY.1 h;unfold onB at b;simp only [yb,decide_eq_true_eq] at b;exact ⟨by omega,by have:=b.1; omega⟩
def ints (n : Nat) : List Int:=(yi n).map yN
theorem zr6 {n : Nat} {x : Int} : x ∈ ints n ↔ 0 ≤ x ∧ x < (n : Int):=by
 unfold ints;rw [yv];constructor
 ·rintro ⟨k,a,rfl⟩
  have:=yh.1 a;exact ⟨by show (0 : Int) ≤ (k : Int); omega,by show (k : Int) < _; omega⟩
 ·rintro ⟨b,c⟩
  exact ⟨x.toNat,yh.2 (by omega),by show (x.toNat : Int) = x; omega⟩
theorem zok (n : Nat) : (ints n).length = n:=by simp [ints]
theorem zxq (n : Nat) : (ints n).Nodup:=by
 unfold ints;refine List.Pairwise.map (R:=(· ≠ ·)) _ (fun x y h e => h ?_) List.nodup_range;exact Int.ofNat.inj e
theorem ztg (n : Nat) : ints (n + 1) = ints n ++ [(n : Int)]:=by simp [ints,yJ]
theorem zlq : ∀ (n : Nat) (l : List Int),l.length = n → (∀ i : Nat,i < n → (i : Int) ∈ l) → l.Perm (ints n)
 | 0,l,h,_ => by
   rw [List.eq_nil_of_length_eq_zero h];exact List.Perm.refl _
 | n + 1,l,h,hm => by
   have a:=hm n (yC n);have p:=List.perm_cons_erase a;have c : (l.erase (n : Int)).length = n:=(by rw [yt a]; omega);have b:=zlq n (l.erase (n : Int)) c fun i d => (yy (by omega)).2 (hm i (by omega));rw [ztg];exact p.trans ((List.Perm.cons _ b).trans (List.perm_append_singleton _ _).symm)
theorem zi2 {n : Nat} {l : List Int} (h : l.length = n) (hd : l.Nodup) (c : ∀ x ∈ l,0 ≤ x ∧ x < (n : Int)) : l.Perm (ints n):=by
 refine zlq n l h fun i d => ?_;refine Classical.byContradiction fun b => ?_
 have:=zib (l:=(i : Int) :: l) (n:=n) (List.nodup_cons.2 ⟨b,hd⟩) fun x a => by
  rcases ye.1 a with rfl | a
  ·exact ⟨by omega,by omega⟩
  ·exact c x a
 simp only [yf] at this;omega
theorem zrl : ∀ (n : Nat) (l : List Int),(∀ i : Nat,i < n → (i : Int) ∈ l) → n ≤ l.length
 | 0,l,_ => yP _
 | n + 1,l,hm => by
   have a:=hm n (yC n);have e:=yt a;have d:=List.length_pos_of_mem a;have c:=zrl n (l.erase (n : Int)) fun i b => (yy (by omega)).2 (hm i (by omega));omega
def zf1 (on : List (List Int)) (n : Nat) : List Int → List Int → Bool
 | _,[] => true
 | done,x :: r => (decide (0 ≤ x) && (decide (x < (n : Int)) && (!decide (x ∈ done) && (on.getD x.toNat []).all fun y => decide (y ∈ done)))) && zf1 on n (done ++ [x]) r
def zrd (b : PBlock) (order : List Int) : Bool:=decide (order.length = b.ops.length) && zf1 (zg9 b) b.ops.length [] order
def zzk (ops : List POp) (order : List Int) : Bool :=
 decide (order.length = ops.length) && (((yi order.length).all fun (i : Nat) => decide ((i : Int) ∈ order)) && (yi order.length).all fun i => (yi order.length).all fun k => !(decide (i < k) && onB ops (order.getD i 0).toNat (order.getD k 0).toNat))
theorem znJ (on : List (List Int)) (n : Nat) : ∀ (order done : List Int),zf1 on n done order = true ↔ ∀ i (a : i < order.length),0 ≤ order[i] ∧ order[i] < (n : Int) ∧ order[i] ∉ done ++ order.take i ∧ ∀ y ∈ on.getD order[i].toNat [],y ∈ done ++ order.take i
 | [],done => by simp [zf1]
 | x :: r,done => by
   rw [zf1,yb,znJ on n r (done ++ [x])];simp only [yb,decide_eq_true_eq,yD,decide_eq_false_iff_not,yn];constructor
   ·rintro ⟨⟨b,f,d,e⟩,c⟩ i a
    cases i with
    | zero => simpa using ⟨b,f,d,e⟩
    | succ i =>
      have:=c i (by simpa using a);simpa [yE] using this
   ·intro h
    refine ⟨?_,fun i a => ?_⟩
    ·have:=h 0 (by simp)
     simpa using this
    ·have:=h (i + 1) (by simpa using a)
     simpa [yE] using this
theorem znr {l : List Int} : l.Nodup ↔ ∀ i (a : i < l.length),l[i] ∉ l.take i:=by
 constructor
 ·intro h i a hm
  obtain ⟨j,b,e⟩:=yl.1 hm;simp only [yw] at b;rw [yu] at e;have:=(List.getElem_inj (h₀:=by omega) (h₁:=a) h).1 e;omega
 ·intro h
  unfold List.Nodup;rw [List.pairwise_iff_getElem];intro i j a b c e;refine h j b (yl.2 ⟨i,by simp only [yw]; omega,?_⟩);rw [yu]; exact e
structure LegalP (ops : List POp) (order : List Int) : Prop where
 perm : order.Perm (ints ops.length)
 ahead : ∀ i k (hi : i < order.length) (hk : k < order.length),i < k → onB ops order[i].toNat order[k].toNat = false
theorem LegalP.len {ops : List POp} {order : List Int} (h : LegalP ops order) : order.length = ops.length:=by rw [h.perm.length_eq,zok]
theorem LegalP.nodup {ops : List POp} {order : List Int} (h : LegalP ops order) : order.Nodup:=h.perm.nodup_iff.2 (zxq _)
theorem LegalP.range {ops : List POp} {order : List Int} (h : LegalP ops order) : ∀ x ∈ order,0 ≤ x ∧ x < (ops.length : Int):=fun x a => zr6.1 (h.perm.mem_iff.1 a)
theorem LegalP.all {ops : List POp} {order : List Int} (h : LegalP ops order) {x : Int} (a : 0 ≤ x) (b : x < (ops.length : Int)) : x ∈ order:=h.perm.mem_iff.2 (zr6.2 ⟨a,b⟩)
theorem zqN {ops : List POp} {order : List Int} : zzk ops order = true ↔ LegalP ops order:=by
 unfold zzk;simp only [yb,decide_eq_true_eq,yn,yh,yD,Bool.and_eq_false_iff,decide_eq_false_iff_not];have e : ∀ j (f : j < order.length),order.getD j 0 = order[j]:=fun j f => by rw [ya,yc f]; rfl
 constructor
 ·rintro ⟨g,m,l⟩
  refine ⟨?_,fun i k a b d => ?_⟩
  ·rw [← g]
   exact zlq _ _ rfl m
  ·rcases l i a k b with h | h
   ·exact absurd d h
   ·rwa [e i a,e k b] at h
 ·intro h
  refine ⟨h.len,fun i a => h.all (by omega) (by have:=h.len; omega),fun i a k b => ?_⟩
  by_cases c : i < k
  ·right; rw [e i a,e k b]; exact h.ahead i k a b c
  ·exact .inl c
theorem getD_map {α : Type} (g : Nat → List α) (n k : Nat) (a : k < n) : ((yi n).map g).getD k [] = g k:=by
 rw [ya,List.getElem?_map,List.getElem?_range a]; rfl
theorem zrn {ops : List POp} {order : List Int} (p : order.length = ops.length) : zf1 ((yi ops.length).map (ziN ops)) ops.length [] order = true ↔ LegalP ops order:=by
 rw [znJ];simp only [List.nil_append];constructor
 ·intro h
  have t : order.Nodup:=znr.2 fun i a => (h i a).2.2.1
  have f : ∀ x ∈ order,0 ≤ x ∧ x < (ops.length : Int):=fun x o => by
   obtain ⟨i,a,rfl⟩:=yl.1 o;exact ⟨(h i a).1,(h i a).2.1⟩
  refine ⟨zi2 p t f,fun i k a l s => ?_⟩
  cases c : onB ops order[i].toNat order[k].toNat with
  | false => rfl
  | true =>
    exfalso;obtain ⟨m,g,w,n⟩:=h i a;rw [getD_map _ _ _ (by omega)] at n;have u:=(f order[k] (ym l)).1;have hm:=n order[k] (zjY.2 ⟨order[k].toNat,by omega,c⟩);exact (h k l).2.2.1 (yz (i:=i) (by rw [yL,yG (by omega)]; exact hm))
 ·intro h i a
  obtain ⟨m,g⟩:=h.range _ (ym a);refine ⟨m,g,znr.1 h.nodup i a,fun y e => ?_⟩;rw [getD_map _ _ _ (by omega)] at e;obtain ⟨q,v⟩:=zwj e;obtain ⟨j,r,rfl⟩:=yl.1 (h.all q (by omega));obtain ⟨k,d,b⟩:=zjY.1 e;rcases Nat.lt_trichotomy j i with c | rfl | c
  ·exact yl.2 ⟨j,by simp only [yw]; omega,by rw [yu]⟩
  ·omega
  ·have:=h.ahead i j a r c
   rw [← d,ys,b] at this;cases this
theorem zz5 {b : PBlock} (a : OneDef b.ops) (order : List Int) : zrd b order = zzk b.ops order:=by
 rw [yI,zqN];unfold zrd;rw [yb,decide_eq_true_eq,zru a];exact ⟨fun ⟨h,k⟩ => (zrn h).1 k,fun h => ⟨h.len,(zrn h.len).2 h⟩⟩
theorem zst {b : PBlock} (a : OneDef b.ops) {order : List Int} : zrd b order = true ↔ LegalP b.ops order:=by rw [zz5 a,zqN]
def zgs (on : List (List Int)) (out : List Int) (a : Nat) : Bool:=!decide ((a : Int) ∈ out) && (on.getD a []).all fun y => decide (y ∈ out)
def zhq (on : List (List Int)) (ops : List POp) (want : Bool) (out : List Int) : Option Nat:=(yi ops.length).find? fun a => (decide (pure (ops.getD a op0).kind = want) && zgs on out a)
def zdT (on : List (List Int)) (ops : List POp) (out : List Int) : Option Nat:=(zhq on ops true out).or (zhq on ops false out)
def zgu (on : List (List Int)) (ops : List POp) : Nat → List Int → List Int
 | 0,out => out
 | d + 1,out => match zdT on ops out with
   | some a => zgu on ops d (out ++ [(a : Int)])
   | none => out
def zls (b : PBlock) : List Int:=zgu (zg9 b) b.ops b.ops.length []
theorem zqx {on : List (List Int)} {ops : List POp} {out : List Int} {a : Nat} (h : zdT on ops out = some a) : a < ops.length ∧ zgs on out a = true:=by
 unfold zdT at h;rw [Option.or_eq_some_iff] at h
 have key : ∀ w,zhq on ops w out = some a → a < ops.length ∧ zgs on out a = true:=fun w hw => by
  unfold zhq at hw;have b:=List.find?_some hw;have c:=List.mem_of_find?_eq_some hw;rw [yb] at b;exact ⟨yh.1 c,b.2⟩
 rcases h with h | ⟨_,h⟩
 ·exact key _ h
 ·exact key _ h
theorem zwZ {on : List (List Int)} {ops : List POp} {out : List Int} (h : zdT on ops out = none) : ∀ a,a < ops.length → zgs on out a = false:=by
 intro a d;unfold zdT at h;rw [Option.or_eq_none_iff] at h;unfold zhq at h;rw [yA,yA] at h;have b:=h.1 a (yh.2 d);have e:=h.2 a (yh.2 d);cases c : pure (ops.getD a op0).kind
 ·rw [c] at e; simpa using e
 ·rw [c] at b; simpa using b
structure OutIs (ops : List POp) (out : List Int) : Prop where
 nodup : out.Nodup
 range : ∀ x ∈ out,0 ≤ x ∧ x < (ops.length : Int)
 ahead : ∀ i (hi : i < out.length),∀ y ∈ ziN ops out[i].toNat,y ∈ out.take i
theorem OutIs.le {ops : List POp} {out : List Int} (h : OutIs ops out) : out.length ≤ ops.length:=zib h.nodup h.range
theorem zt8 {ops : List POp} {out : List Int} {a : Nat} (b : a < ops.length) : zgs ((yi ops.length).map (ziN ops)) out a = true ↔ (a : Int) ∉ out ∧ ∀ y ∈ ziN ops a,y ∈ out:=by
 unfold zgs;rw [getD_map _ _ _ b];simp
theorem OutIs.step {ops : List POp} {out : List Int} (h : OutIs ops out) {a : Nat} (g : a < ops.length) (k : zgs ((yi ops.length).map (ziN ops)) out a = true) : OutIs ops (out ++ [(a : Int)]):=by
 obtain ⟨f,l⟩:=(zt8 g).1 k;refine ⟨?_,fun x b => ?_,fun i j y d => ?_⟩
 ·rw [List.nodup_append]
  refine ⟨h.nodup,by simp,fun x b y d e => ?_⟩;rw [yr.1 d] at e;exact f (e ▸ b)
 ·rcases yg.1 b with b | b
  ·exact h.range x b
  ·rw [yr.1 b]; omega
 ·by_cases c : i < out.length
  ·rw [List.getElem_append_left c] at d
   have:=h.ahead i c y d;rw [List.take_append_of_le_length (by omega)];exact this
  ·have e : i = out.length:=by simp at j; omega
   subst e;rw [List.getElem_append_right (Nat.le_refl _)] at d;simp only [Nat.sub_self,List.getElem_singleton,ys] at d;rw [List.take_left];exact l y d
theorem zwV {ops : List POp} {out : List Int} (h : OutIs ops out) (i : out.length < ops.length) : ∃ a,zdT ((yi ops.length).map (ziN ops)) ops out = some a:=by
 cases e : zdT ((yi ops.length).map (ziN ops)) ops out with
 | some a => exact ⟨a,rfl⟩
 | none =>
   exfalso;have d:=zwZ e
   have key : ∀ a,a < ops.length → (a : Int) ∈ out:=by
    intro a
    induction a using Nat.strongRecOn with
    | ind a ih =>
      intro b;refine Classical.byContradiction fun c => ?_;have:=d a b;rw [(zt8 b).2 ⟨c,fun y f => ?_⟩] at this
      ·cases this
      ·obtain ⟨j,g⟩:=zwj f
       have:=ih y.toNat (by omega) (by omega)
       rwa [show ((y.toNat : Nat) : Int) = y by omega] at this
   have:=zrl ops.length out key;omega
theorem zyQ {ops : List POp} : ∀ (d : Nat) (out : List Int),OutIs ops out → out.length + d = ops.length → OutIs ops (zgu ((yi ops.length).map (ziN ops)) ops d out) ∧ (zgu ((yi ops.length).map (ziN ops)) ops d out).length = ops.length
 | 0,out,h,hl => ⟨h,by rw [zgu]; omega⟩
 | d + 1,out,h,hl => by
   obtain ⟨a,b⟩:=zwV h (by omega);rw [zgu,b];obtain ⟨c,e⟩:=zqx b;exact zyQ d _ (h.step c e) (by simp; omega)
theorem OutIs.legal {ops : List POp} {out : List Int} (h : OutIs ops out) (e : out.length = ops.length) : LegalP ops out:=by
 refine ⟨zi2 e h.nodup h.range,fun i k b a f => ?_⟩
 cases c : onB ops out[i].toNat out[k].toNat with
 | false => rfl
 | true =>
   exfalso;have d:=(h.range _ (ym a)).1;have hm:=h.ahead i b out[k] (zjY.2 ⟨out[k].toNat,by omega,c⟩);exact znr.1 h.nodup k a (yz (i:=i) (by rw [yL,yG (by omega)]; exact hm))
theorem zyH (ops : List POp) : OutIs ops []:=⟨List.nodup_nil,fun _ h => by simp at h,fun i a => by simp at a⟩
theorem zox {b : PBlock} (a : OneDef b.ops) : OutIs b.ops (zls b) ∧ (zls b).length = b.ops.length:=by
 unfold zls;rw [zru a];exact zyQ _ _ (zyH _) (by simp)
theorem zw7 {b : PBlock} (a : OneDef b.ops) : LegalP b.ops (zls b):=(zox a).1.legal (zox a).2
theorem zxl (ops : List POp) : LegalP ops (ints ops.length):=by
 refine ⟨List.Perm.refl _,fun i k a b d => ?_⟩;have e : ∀ j (c : j < (ints ops.length).length),(ints ops.length)[j] = (j : Int):=fun j c => by simp [ints]
 rw [e i a,e k b];unfold onB;rw [show decide (((k : Nat) : Int).toNat < ((i : Nat) : Int).toNat) = false from decide_eq_false (by omega)];rfl
end AC

/- A part of the proof of AliasBoth. Conditions: none. -/
import Derived.Test.YtmkncmffaaninaaGreatABD
import Derived.Test.YtmkncmffaaninaaGreatAAZ
import Derived.Test.YtmkncmffaaninaaGreatAAY
import Derived.Test.YtmkncmffaaninaaGreatABC
set_option linter.all false
open Bool renaming and_eq_true → ya,not_eq_true' → yE,eq_iff_iff → yI,true_and → yL
open List renaming mem_append → yb,getElem?_eq_some_iff → yc,all_eq_true → yd,mem_cons_of_mem → ye,getD_eq_getElem?_getD → yf,length_cons → yg,mem_cons → yh,mem_cons_self → yi,getElem?_cons_zero → yj,append_assoc → yk,mem_singleton → yl,singleton_append → ym,getElem?_eq_getElem → yn,getElem?_set_self → yo,set_getElem_self → yp,getElem?_set_ne → yq,mem_map → yr,find?_cons → ys,getElem_mem → yt,nil_append → yu,nodup_cons → yv,mem_iff_getElem → yw,mem_range → yx,range → yz,all_cons → yB,map_cons → yC,getElem_take → yD,cons_append → yF,length_take → yG,all_map → yH,mem_filter → yJ,length_set → yK
open Int renaming toNat_natCast → yy,ofNat → yM
open Nat renaming zero_add → yA
namespace AC
open Go Go.A Go.A.Lex
open Dm
theorem zq4 {α : Type} (k a : Int) (v : α) : ∀ D : List (Int × α),getM k (zfV a v D) = if a = k then some v else getM k D
 | [] => by by_cases c : a = k <;> simp [zfV,getM,c]
 | e :: D => by
   rw [zfV]
   by_cases c : e.1 = a
   ·rw [if_pos c,getM,getM]
    by_cases d : a = k
    ·rw [if_pos d,if_pos d]
    ·rw [if_neg d,if_neg d,if_neg (fun h => d (c.symm.trans h))]
   ·rw [if_neg c,getM,getM,zq4 k a v D]
    by_cases d : e.1 = k
    ·rw [if_pos d,if_pos d,if_neg (fun h => c (d.trans h.symm))]
    ·rw [if_neg d,if_neg d]
def toP (u : Use) : PDef:=⟨u.block,u.at',u.shape⟩
def lk (ds : List Use) (v : Int) : Option PDef:=(ds.find? fun u => decide (u.v = v)).map toP
def Rep (D : zfe) (ds : List Use) : Prop:=∀ v,getM v D = lk ds v
theorem zCv (ds : List Use) (u : Use) (v : Int) : lk (ds ++ [u]) v = if (lk ds v).isSome = true then lk ds v else if u.v = v then some (toP u) else none:=by
 unfold lk;rw [List.find?_append]
 cases h : ds.find? (fun u => decide (u.v = v)) with
 | some x => simp
 | none =>
   by_cases c : u.v = v
   ·simp [c]
   ·simp [c]
theorem zsZ {D : zfe} {ds : List Use} (R : Rep D ds) (u : Use) (h : (lk ds u.v).isNone = true) : Rep (zfV u.v (toP u) D) (ds ++ [u]):=by
 intro v;rw [zq4,zCv,R v]
 by_cases c : u.v = v
 ·subst c
  have : (lk ds u.v).isSome = false:=by
   cases e : lk ds u.v
   ·rfl
   ·rw [e] at h; cases h
  rw [if_pos rfl,this,if_neg (by simp),if_pos rfl]
 ·rw [if_neg c,if_neg c]
  cases e : lk ds v <;> simp
def zeh : List Use → List Use → Bool
 | _,[] => true
 | pre,u :: r => (value u.v && (lk pre u.v).isNone) && zeh (pre ++ [u]) r
theorem zjP : ∀ (a b pre : List Use),zeh pre (a ++ b) = (zeh pre a && zeh (pre ++ a) b)
 | [],b,pre => by rw [yu,List.append_nil,zeh,yL]
 | u :: a,b,pre => by
   rw [yF,zeh,zeh,zjP a b];simp only [Bool.and_assoc,yk,ym]
theorem zkT {ds : List Use} {v : Int} : (lk ds v).isNone = true ↔ ∀ u ∈ ds,u.v ≠ v:=by
 unfold lk;rw [Option.isNone_map,Option.isNone_iff_eq_none,List.find?_eq_none];simp
theorem zul (v : Int) : ∀ (pre : List Use) (u : Use) (r : List Use) (k : Nat),u.v = v → (zy v k (pre ++ u :: r) = ((k + pre.length : Nat) : Int) ↔ ∀ x ∈ pre,x.v ≠ v)
 | [],u,r,k,h => by simp [zy,h]
 | x :: pre,u,r,k,h => by
   rw [yF,zy]
   by_cases c : x.v = v
   ·rw [if_pos c]
    constructor
    ·intro e
     simp only [yg] at e;omega
    ·intro e
     exact absurd c (e x yi)
   ·rw [if_neg c]
    have b:=zul v pre u r (k + 1) h;rw [show k + 1 + pre.length = k + (x :: pre).length by simp only [yg]; omega] at b;rw [b];constructor
    ·intro e y a
     rcases yh.1 a with rfl | a
     ·exact c
     ·exact e y a
    ·exact fun e y a => e y (ye _ a)
theorem zp8 (defs : List Use) : ∀ (r pre : List Use),defs = pre ++ r → zgq defs pre.length r = zeh pre r
 | [],_,_ => rfl
 | u :: r,pre,h => by
   have a:=zp8 defs r (pre ++ [u]) (by rw [h]; simp);rw [List.length_append,List.length_singleton] at a;rw [zgq,zeh,a]
   congr 2
   have b:=zul u.v pre u r 0 rfl;rw [← h,yA] at b;rw [yI,decide_eq_true_eq,b,zkT]
theorem zki {v : Int} : value v = true ↔ ¬ (v < 1 ∨ 1023 < v):=by
 unfold value;rw [ya,decide_eq_true_eq,decide_eq_true_eq];omega
theorem zoF : ∀ (l : List Int) (k : Nat) (D : zfe) (pre : List Use),Rep D pre → (∀ u ∈ pre,u.v ≤ (k : Int)) → k + l.length ≤ 16 → Rep (zaX k D l) (pre ++ zbN k l) ∧ zeh pre (zbN k l) = true
 | [],k,D,pre,R,_,_ => by simpa [zaX,zbN,zeh] using R
 | b :: l,k,D,pre,R,hp,hl => by
   have a : (lk pre ((k : Int) + 1)).isNone = true:=zkT.2 fun u hu => by have:=hp u hu; omega
   simp only [yg] at hl
   obtain ⟨c,d⟩:=zoF l (k + 1) (zfV ((k : Int) + 1) ⟨-1,0,(b,1)⟩ D) (pre ++ [(⟨(k : Int) + 1,(b,1),-1,0⟩ : Use)]) (zsZ R (⟨(k : Int) + 1,(b,1),-1,0⟩ : Use) a) (fun u hu => by
    rcases yb.1 hu with hu | hu
    ·have:=hp u hu; omega
    ·rw [yl.1 hu]; show (k : Int) + 1 ≤ _; omega) (by omega)
   rw [zaX,zbN,zeh,d];rw [yk,ym] at c;refine ⟨c,?_⟩;have e : value ((k : Int) + 1) = true:=zki.2 (by omega);simp only [e,a,Bool.and_true]
theorem ztw (i : Int) : ∀ (l : List PPhi) (D : zfe) (pre : List Use),Rep D pre → ((zdx i D l).2.isNone = zeh pre (zgL i l)) ∧ (zeh pre (zgL i l) = true → Rep (zdx i D l).1 (pre ++ zgL i l))
 | [],D,pre,R => ⟨rfl,fun _ => by simpa [zdx,zgL] using R⟩
 | p :: l,D,pre,R => by
   have e : zgL i (p :: l) = ⟨p.dst,(p.bits,1),i,-1⟩ :: zgL i l:=rfl;rw [zdx,e,zeh]
   by_cases c : p.dst < 1 ∨ 1023 < p.dst
   ·have a : value p.dst = false:=by
     cases h : value p.dst
     ·rfl
     ·exact absurd c (zki.1 h)
    rw [if_pos c,a];exact ⟨rfl,fun h => by simp at h⟩
   ·have a : value p.dst = true:=zki.2 c
    rw [if_neg c,a,R p.dst];cases d : (lk pre p.dst).isNone
    ·rw [if_neg (by simp)]
     exact ⟨rfl,fun h => by simp at h⟩
    ·rw [if_pos rfl]
     have f : Rep (zfV p.dst ⟨i,-1,(p.bits,1)⟩ D) (pre ++ [(⟨p.dst,(p.bits,1),i,-1⟩ : Use)]):=zsZ R (⟨p.dst,(p.bits,1),i,-1⟩ : Use) d;obtain ⟨g,b⟩:=ztw i l _ _ f;rw [yk,ym] at b;exact ⟨by simpa using g,fun h => b (by simpa using h)⟩
theorem zsI {o : POp} (h : 0 < (zN o).1) : value o.dst = true:=by
 unfold zN at h;split at h
 ·simp at h
 ·rename_i c
  have hm : zeI o = true:=by
   cases e : zeI o
   ·exact absurd (.inl e) c
   ·rfl
  have a : zdz o.kind = false:=by
   cases e : zdz o.kind
   ·rfl
   ·exact absurd (.inr e) c
  unfold zeI at hm;simp only [ya] at hm;have:=hm.2.2.1;rw [a] at this;simpa using this
theorem zst (i : Int) : ∀ (l : List POp) (k : Nat) (D : zfe) (pre : List Use),Rep D pre → ((zdg i k D l).2.isNone = zeh pre (zev i k l)) ∧ (zeh pre (zev i k l) = true → Rep (zdg i k D l).1 (pre ++ zev i k l))
 | [],k,D,pre,R => ⟨rfl,fun _ => by simpa [zdg,zev] using R⟩
 | o :: l,k,D,pre,R => by
   rw [zdg,zev]
   by_cases c : (zN o).1 ≤ 0
   ·rw [if_pos c,if_neg (show ¬ 0 < (zN o).1 by omega)]
    exact zst i l (k + 1) D pre R
   ·rw [if_neg c,if_pos (show 0 < (zN o).1 by omega),zeh,zsI (o:=o) (by omega),R o.dst]
    cases b : (lk pre o.dst).isNone
    ·rw [if_neg (by simp)]
     exact ⟨rfl,fun h => by simp at h⟩
    ·rw [if_pos rfl]
     have d : Rep (zfV o.dst ⟨i,(k : Int),zN o⟩ D) (pre ++ [(⟨o.dst,zN o,i,(k : Int)⟩ : Use)]):=zsZ R (⟨o.dst,zN o,i,(k : Int)⟩ : Use) b;obtain ⟨e,a⟩:=zst i l (k + 1) _ _ d;rw [yk,ym] at a;exact ⟨by simpa using e,fun h => a (by simpa using h)⟩
theorem zoe : ∀ (l : List PBlock) (k : Nat) (D : zfe) (pre : List Use),Rep D pre → ((zbp k D l).2.isNone = zeh pre (zaz k l)) ∧ (zeh pre (zaz k l) = true → Rep (zbp k D l).1 (pre ++ zaz k l))
 | [],k,D,pre,R => ⟨rfl,fun _ => by simpa [zbp,zaz] using R⟩
 | b :: l,k,D,pre,R => by
   obtain ⟨p1,p2⟩:=ztw (k : Int) b.phis D pre R;rw [zbp,zaz,zjP,zjP]
   cases g : zdx (k : Int) D b.phis with
   | mk D1 q =>
     rw [g] at p1 p2
     cases q with
     | some x =>
       rw [← p1];exact ⟨rfl,fun h => by simp at h⟩
     | none =>
       rw [← p1];have c:=p2 (by rw [← p1]; rfl);simp only at c;obtain ⟨a,d⟩:=zst (k : Int) b.ops 0 D1 _ c;simp only
       cases f : zdg (k : Int) 0 D1 b.ops with
       | mk D2 q2 =>
         rw [f] at a d
         cases q2 with
         | some x =>
           rw [← a];exact ⟨rfl,fun h => by simp at h⟩
         | none =>
           rw [← a];have e:=d (by rw [← a]; rfl);obtain ⟨b1,b2⟩:=zoe l (k + 1) D2 _ e;rw [yk] at b1 b2;simp only [yk] at b1 b2;refine ⟨by simpa using b1,fun h => ?_⟩;have:=b2 (by simpa using h);simpa [yk] using this
theorem zyP {f : PFunc} (h : f.params.length ≤ 16) : ((zgh f).2.isNone = zgq (zR f) 0 (zR f)) ∧ (zgq (zR f) 0 (zR f) = true → Rep (zgh f).1 (zR f)):=by
 have e:=zp8 (zR f) (zR f) [] (by simp);rw [List.length_nil] at e;have c : Rep [] []:=fun v => rfl;obtain ⟨a,b⟩:=zoF f.params 0 [] [] c (by simp) (by omega);rw [yu] at a;obtain ⟨b1,b2⟩:=zoe f.blocks 0 _ _ a
 have d : zeh [] (zR f) = zeh (zbN 0 f.params) (zaz 0 f.blocks):=by
  unfold zR;rw [zjP,b,yL,yu]
 rw [e,d];exact ⟨b1,b2⟩
end AC
namespace AC
open Go Go.A Go.A.Lex
open Dm
theorem zA6 {f : PFunc} (hf : okF f) (h : zbA f = true) : ∃ (t : List Int) (O : Int → Prop) (pos : Int → Nat),TreeOf (zA f) ((0 : Nat) : Int) O pos t ∧ ziN f (t.set 0 (-1)):=by
 have hm:=zfr h;obtain ⟨i,n64,j⟩:=zeQ hm;obtain ⟨o,c,tail,t,O,pos,e,b,d,k,g,Q,l⟩:=zBi hm (root:=0) (by omega);refine ⟨t,O,pos,Q,?_,fun _ => ?_⟩
 ·rw [ziS Q]; omega
 ·have a : zyq (zA f) (zah (zA f)) = true:=by unfold zyq; rw [hm]; simp
  exact zrG (zA f) (zah (zA f)) (znh hf) a 0 (by omega) 200 (by omega) o e c tail b d (by omega) 200 5000 t g
theorem zpn (f : PFunc) (hf : okF f) : ∃ tree,ziN f tree ∧ (zbA f = true → ∃ (t : List Int) (O : Int → Prop) (pos : Int → Nat),TreeOf (zA f) ((0 : Nat) : Int) O pos t ∧ tree = t.set 0 (-1)):=by
 cases c : zbA f
 ·exact ⟨[],⟨by simp,fun h => by rw [c] at h; cases h⟩,fun h => by cases h⟩
 ·obtain ⟨t,O,pos,Q,a⟩:=zA6 hf c
  exact ⟨_,a,fun _ => ⟨t,O,pos,Q,rfl⟩⟩
noncomputable def zzP (f : PFunc) : List Int:=open Classical in if h : okF f then (zpn f h).choose else []
theorem zsA {f : PFunc} (hf : okF f) : ziN f (zzP f):=by
 unfold zzP;rw [dif_pos hf];exact (zpn f hf).choose_spec.1
theorem zAQ {f : PFunc} (hf : okF f) (h : zbA f = true) : ∃ (t : List Int) (O : Int → Prop) (pos : Int → Nat),TreeOf (zA f) ((0 : Nat) : Int) O pos t ∧ zzP f = t.set 0 (-1):=by
 unfold zzP;rw [dif_pos hf];exact (zpn f hf).choose_spec.2 h
theorem zvh (f : PFunc) (hf : okF f) (level : Int) : call T 51 [zbS f,vI level] [] = some (vI (ziO f level (zzP f)),[]):=zog f hf level _ (zsA hf)
section
variable {f : PFunc} (hf : okF f) (hg : zbA f = true) {t : List Int} {O : Int → Prop} {pos : Int → Nat} (Q : TreeOf (zA f) ((0 : Nat) : Int) O pos t)
include hg Q
theorem ziJ : ∀ (l : List PBlock) (i : Nat),zcF (zah (zA f)) (t.set 0 (-1)) i l = zdP (zah (zA f)) (zj0 (zA f) 0 (-1)) i l
 | [],_ => rfl
 | b :: l,i => by
   rw [zcF,zdP,ziJ l (i + 1),zoC,zmJ]
   congr 1
   have e : ziA (t.set 0 (-1)) (i : Int) (i : Int) = (zj0 (zA f) 0 (-1)).getD i false:=by
    rw [yI];have c:=zzw Q (i : Int) (i : Int);have a:=zsG (zfr hg) Q i;rw [c];exact ⟨fun h => a.2 h.1,fun h => ⟨a.1 h,a.1 h,zyw _⟩⟩
   rw [e,Bool.and_comm (b.phis.all _)]
theorem zvw : zdM f (t.set 0 (-1)) = zls f:=by
 unfold zdM zls;rw [ziJ hg Q]
end
theorem zib (ask : Use → Int) (c : Int) (b : c ≠ 0) : ∀ l : List Use,(∀ u ∈ l,ask u = 0 ∨ ask u = c) → zC ask l = if l.all (fun u => decide (ask u = 0)) = true then 0 else c
 | [],_ => rfl
 | u :: l,h => by
   have e:=zib ask c b l fun x d => h x (ye _ d);rw [zC,yB];rcases h u yi with a | a
   ·rw [if_pos a,e,a]
    simp
   ·rw [if_neg (by rw [a]; exact b),a]
    simp [b]
theorem zlb {l : List Use} {p q : Use → Bool} (h : ∀ u ∈ l,p u = q u) : l.all p = l.all q:=by
 induction l with
 | nil => rfl
 | cons x l ih => rw [yB,yB,h x yi,ih fun y a => h y (ye _ a)]
theorem ziv (defs : List Use) (v : Int) : ∀ (k : Nat),(zy v k defs < 0 ↔ (lk defs v).isNone = true) ∧ (0 ≤ zy v k defs → defs[(zy v k defs - k).toNat]? = defs.find? (fun u => decide (u.v = v))):=by
 induction defs with
 | nil => intro k; simp [zy,lk]
 | cons u r ih =>
   intro k;obtain ⟨b,a⟩:=ih (k + 1);rw [zy]
   by_cases c : u.v = v
   ·rw [if_pos c]
    constructor
    ·constructor
     ·intro h; omega
     ·intro h
      exact absurd c (zkT.1 h u yi)
    ·intro _
     rw [Int.sub_self,ys,decide_eq_true c];rfl
   ·rw [if_neg c]
    have e : lk (u :: r) v = lk r v:=(by unfold lk; rw [ys,decide_eq_false c]);rw [e];refine ⟨b,fun h => ?_⟩;have:=a h;have d:=zjx v r (k + 1) h;rw [ys,decide_eq_false c,← this];rw [show (zy v (k + 1) r - (k : Int)).toNat = (zy v (k + 1) r - ((k + 1 : Nat) : Int)).toNat + 1 by omega,List.getElem?_cons_succ]
theorem zzh {defs : List Use} {v : Int} {p : PDef} (h : lk defs v = some p) : toP (zhA defs v) = p:=by
 obtain ⟨d,a⟩:=ziv defs v 0
 have b : 0 ≤ zy v 0 defs:=by
  by_cases c : zy v 0 defs < 0
  ·have:=d.1 c
   rw [h] at this;cases this
  ·omega
 have:=a b;rw [show zy v 0 defs - ((0 : Nat) : Int) = zy v 0 defs by omega] at this;unfold lk at h
 cases e : defs.find? (fun u => decide (u.v = v)) with
 | none => rw [e] at h; cases h
 | some x =>
   rw [e] at h this;unfold zhA;rw [yf,this];simpa using h
theorem zko (p : PPhi) : ∀ (l : List Int) (k : Nat),k + l.length ≤ p.src.length → ∀ u ∈ zbv p k l,u.block ∈ p.src ∧ u.at' = 1048576
 | [],_,_ => by simp [zbv]
 | v :: l,k,h => by
   simp only [yg] at h;intro u hu;rw [zbv] at hu;rcases yh.1 hu with rfl | hu
   ·refine ⟨?_,rfl⟩
    show p.src.getD k 0 ∈ p.src
    rw [yf,yn (by omega)];exact yt _
   ·exact zko p l (k + 1) (by omega) u hu
theorem zlp (o : POp) (i at' : Int) : ∀ (l : List (Int × Int)) (k : Nat),∀ u ∈ zai o i at' k l,u.block = i ∧ u.at' = at'
 | [],_ => by simp [zai]
 | s :: l,k => by
   intro u hu;rw [zai] at hu;rcases yh.1 hu with rfl | hu
   ·exact ⟨rfl,rfl⟩
   ·exact zlp o i at' l (k + 1) u hu
theorem zjL (i : Int) : ∀ (l : List POp) (k : Nat),∀ u ∈ zJ i k l,u.block = i ∧ 0 ≤ u.at' ∧ u.at' < ((k + l.length : Nat) : Int)
 | [],_ => by simp [zJ]
 | o :: l,k => by
   intro u hu;rw [zJ] at hu;rcases yb.1 hu with hu | hu
   ·obtain ⟨a,b⟩:=zlp o i (k : Int) _ 0 u hu
    simp only [yg];exact ⟨a,by omega,by omega⟩
   ·obtain ⟨a,b,c⟩:=zjL i l (k + 1) u hu
    simp only [yg];exact ⟨a,b,by omega⟩
theorem zi0 (pred : List (List Int)) (reach : List Bool) : ∀ (l : List PBlock) (i : Nat),zdP pred reach i l = true → ∀ k b,l[k]? = some b → zmJ pred reach (i + k) b = true
 | [],_,_ => by simp
 | b :: l,i,h => by
   rw [zdP,ya] at h;intro k c a
   cases k with
   | zero =>
     simp only [yj,Option.some.injEq] at a;subst a;exact h.1
   | succ k =>
     have:=zi0 pred reach l (i + 1) h.2 k c (by simpa using a)
     rwa [show i + 1 + k = i + (k + 1) by omega] at this
theorem ziV (f : PFunc) (P : Int → Prop) : ∀ (l : List PBlock) (k : Nat),(∀ j b,l[j]? = some b → P ((k + j : Nat) : Int) ∧ b.ops.length ≤ 1000 ∧ ∀ p ∈ b.phis,p.args.length = p.src.length ∧ ∀ x ∈ p.src,P x) → ∀ u ∈ zcq f k l,P u.block ∧ (u.at' = 1048576 ∨ (0 ≤ u.at' ∧ u.at' < 1000))
 | [],_,_ => by simp [zcq]
 | b :: l,k,h => by
   intro u hu;obtain ⟨e,n,m⟩:=h 0 b rfl;rw [Nat.add_zero] at e;rw [zcq,zhb] at hu;rcases yb.1 hu with hu | hu
   ·rcases yb.1 hu with hu | hu
    ·unfold zd3 at hu
     rw [List.mem_flatMap] at hu;obtain ⟨p,a,hu⟩:=hu;obtain ⟨q,e2⟩:=m p a;obtain ⟨g,d⟩:=zko p p.args 0 (by omega) u hu;exact ⟨e2 _ g,.inl d⟩
    ·rcases yb.1 hu with hu | hu
     ·obtain ⟨g,d,o⟩:=zjL (k : Int) b.ops 0 u hu
      rw [g];exact ⟨e,.inr ⟨d,by omega⟩⟩
     ·unfold ze0 at hu
      split at hu
      ·simp at hu
      ·rw [yl.1 hu]
       exact ⟨e,.inl rfl⟩
   ·exact ziV f P l (k + 1) (fun j c i => by
    have:=h (j + 1) c (by simpa using i)
    rwa [show k + (j + 1) = k + 1 + j by omega] at this) u hu
theorem zht (i : Int) : ∀ (l : List POp) (k : Nat),∀ u ∈ zev i k l,u.block = i ∧ 0 ≤ u.at' ∧ u.at' < ((k + l.length : Nat) : Int)
 | [],_ => by simp [zev]
 | o :: l,k => by
   intro u hu;rw [zev] at hu;simp only [yg];split at hu
   ·rcases yh.1 hu with rfl | hu
    ·exact ⟨rfl,by show (0 : Int) ≤ (k : Int); omega,by show (k : Int) < _; omega⟩
    ·obtain ⟨b,a,c⟩:=zht i l (k + 1) u hu
     exact ⟨b,a,by omega⟩
   ·obtain ⟨b,a,c⟩:=zht i l (k + 1) u hu
    exact ⟨b,a,by omega⟩
theorem zgZ : ∀ (l : List PBlock) (k : Nat),(∀ b ∈ l,b.ops.length ≤ 1000) → ∀ u ∈ zaz k l,(k : Int) ≤ u.block ∧ u.block < ((k + l.length : Nat) : Int) ∧ u.at' < 1000
 | [],_,_ => by simp [zaz]
 | b :: l,k,h => by
   intro u hu;have g:=h b yi;simp only [yg];rw [zaz] at hu;rcases yb.1 hu with hu | hu
   ·unfold zgL at hu
    obtain ⟨p,_,rfl⟩:=yr.1 hu;exact ⟨Int.le_refl _,by show (k : Int) < _; omega,by show (-1 : Int) < 1000; omega⟩
   ·rcases yb.1 hu with hu | hu
    ·obtain ⟨f,d,a⟩:=zht (k : Int) b.ops 0 u hu
     exact ⟨by omega,by omega,by omega⟩
    ·obtain ⟨f,d,a⟩:=zgZ l (k + 1) (fun c e => h c (ye _ e)) u hu
     exact ⟨by omega,by omega,a⟩
theorem zhE : ∀ (l : List Int) (k : Nat),∀ u ∈ zbN k l,u.block = -1 ∧ u.at' = 0
 | [],_ => by simp [zbN]
 | b :: l,k => by
   intro u hu;rw [zbN] at hu;rcases yh.1 hu with rfl | hu
   ·exact ⟨rfl,rfl⟩
   ·exact zhE l (k + 1) u hu
theorem zmt {f : PFunc} (h : zlQ f ≤ 512) : ∀ b ∈ f.blocks,b.ops.length ≤ 1000:=fun b c => by
 have key : ∀ l : List PBlock,b ∈ l → b.phis.length + b.ops.length ≤ (l.map fun b => b.phis.length + b.ops.length).sum:=by
  intro l
  induction l with
  | nil => intro h; cases h
  | cons a l ih =>
    intro h;simp only [yC,List.sum_cons];rcases yh.1 h with rfl | h
    ·omega
    ·have:=ih h; omega
 have:=key _ c;unfold zlQ at h;omega
theorem zxx {f : PFunc} (hf : okF f) (level : Int) (hm : zpM f = true) : zfg f level (zzP f) = zdw f level ∨ level < 0 ∨ 2 < level:=by
 by_cases r : level < 0 ∨ 2 < level
 ·exact .inr r
 left;unfold zfg zdw;have s : ¬ zpM f = false:=by simp [hm]
 have tf : ¬ (true = false):=by simp
 have C : false = false:=rfl;rw [if_neg r,if_neg s,if_neg s];cases hg : zbA f
 ·have M : zdM f (zzP f) = false:=by unfold zdM; rw [hg]; rfl
  have e2 : zls f = false:=by unfold zls; rw [hg]; rfl
  rw [if_pos M,if_pos e2]
 obtain ⟨t,O,pos,Q,S⟩:=zAQ hf hg;have l:=zfr hg;rw [S,zvw hg Q];cases J : zls f
 ·rw [if_pos C,if_pos C]
 rw [if_neg tf,if_neg tf];cases ht : zfn f level
 ·rw [if_pos C,if_pos C]
 rw [if_neg tf,if_neg tf];obtain ⟨n1,n64,Z,o,nb⟩:=zoz hm;obtain ⟨d1,d2⟩:=zyP (f:=f) Z
 cases hd : zgh f with
 | mk D q =>
   rw [hd] at d1 d2
   cases q with
   | some x =>
     have : zgq (zR f) 0 (zR f) = false:=d1.symm;simp only;rw [if_pos this]
   | none =>
     have w : zgq (zR f) 0 (zR f) = true:=d1.symm;have R:=d2 w;simp only at R ⊢;rw [w,if_neg tf]
     have A : zdP (zah (zA f)) (zj0 (zA f) 0 (-1)) 0 f.blocks = true:=by
      unfold zls at J;rw [ya] at J;exact J.2
     have m : ∀ i : Nat,i < f.blocks.length → O (i : Int):=fun i L => by
      have:=zi0 _ _ _ _ A i _ (yn L);unfold zmJ at this;rw [ya,yA] at this;exact (zsG l Q i).1 this.1
     have hr:=(zeQ l).2.2;have aA : (zA f).length = f.blocks.length:=by simp [zA]
     have W : ∀ u ∈ zcV f,O u.block ∧ (u.at' = 1048576 ∨ (0 ≤ u.at' ∧ u.at' < 1000)):=by
      refine ziV f O f.blocks 0 fun j b I => ?_;have hj:=(yc.1 I).1;have g:=zi0 _ _ _ _ A j b I;rw [yA] at g ⊢;unfold zmJ at g;simp only [ya,yd] at g;refine ⟨m j hj,zmt o b (List.mem_of_getElem? I),fun p n => ?_⟩;have E:=g.2.2 p n;unfold zlO at E;simp only [ya,decide_eq_true_eq] at E;refine ⟨E.2,fun x U => ?_⟩;rw [E.1] at U;have:=(zmd hr (x:=(j : Int)) ⟨by omega,by omega⟩ x).1 (by rw [yy]; exact U);obtain ⟨y,K⟩ : ∃ y : Nat,(y : Int) = x:=⟨x.toNat,by have:=this.1; omega⟩;rw [← K];exact m y (by have:=this.2.1; omega)
     have P : ∀ d ∈ zR f,(d.block < 0 ∨ O d.block) ∧ d.at' < 1000:=fun d a => by
      unfold zR at a;rcases yb.1 a with a | a
      ·obtain ⟨M,e2⟩:=zhE _ _ d a
       exact ⟨.inl (by omega),by omega⟩
      ·obtain ⟨M,e2,e3⟩:=zgZ f.blocks 0 (zmt o) d a
       refine ⟨.inr ?_,e3⟩;obtain ⟨y,K⟩ : ∃ y : Nat,(y : Int) = d.block:=⟨d.block.toNat,by omega⟩;rw [← K];exact m y (by omega)
     have f1:=zib (zg1 D) 7 (by omega) (zcV f) fun u _ => by unfold zg1; split <;> simp
     have a1 : (zcV f).all (fun u => decide (zg1 D u = 0)) = (zga f).all (zn6 (zR f)):=by
      unfold zga;rw [yH];refine zlb fun u _ => ?_
      show decide (zg1 D u = 0) = zn6 (zR f) (ziR u)
      have e:=(ziv (zR f) u.v 0).1;unfold zg1 zn6;rw [R u.v]
      show _ = !decide (zy u.v 0 (zR f) < 0)
      by_cases c : zy u.v 0 (zR f) < 0
      ·rw [if_pos (e.1 c),decide_eq_true c]; rfl
      ·rw [if_neg (fun h => c (e.2 h)),decide_eq_false c]; rfl
     rw [f1,a1];cases b1 : (zga f).all (zn6 (zR f))
     ·simp
     have k : ∀ u ∈ zcV f,∃ p,lk (zR f) u.v = some p:=fun u hu => by
      have:=yd.1 b1 (ziR u) (List.mem_map_of_mem hu);unfold zn6 at this;have e:=(ziv (zR f) u.v 0).1
      cases h : lk (zR f) u.v with
      | some p => exact ⟨p,rfl⟩
      | none =>
        have hn:=e.2 (by rw [h]; rfl);have : (!decide (zy u.v 0 (zR f) < 0)) = true:=this;rw [decide_eq_true hn] at this;cases this
     have B : ∀ u ∈ zcV f,zg6 D u.v = toP (zhA (zR f) u.v):=fun u hu => by
      obtain ⟨p,n⟩:=k u hu;unfold zg6;rw [R u.v,n,zzh n];rfl
     have f2:=zib (zaP D) 6 (by omega) (zcV f) fun u _ => by unfold zaP; split <;> simp
     have a2 : (zcV f).all (fun u => decide (zaP D u = 0)) = (zga f).all (sameShape (zR f)):=by
      unfold zga;rw [yH];refine zlb fun u hu => ?_
      show decide (zaP D u = 0) = sameShape (zR f) (ziR u)
      unfold zaP sameShape;rw [B u hu]
      show decide ((if (zhA (zR f) u.v).shape = u.shape then (0 : Int) else 6) = 0) = decide ((zhA (zR f) u.v).shape = u.shape)
      by_cases c : (zhA (zR f) u.v).shape = u.shape
      ·rw [if_pos c,decide_eq_true c]; rfl
      ·rw [if_neg c,decide_eq_false c]; rfl
     rw [f2,a2];cases b2 : (zga f).all (sameShape (zR f))
     ·simp
     have f3:=zib (zab D (t.set 0 (-1))) 7 (by omega) (zcV f) fun u _ => by
      unfold zab;simp only;split
      ·simp
      ·split <;> simp
     have a3 : (zcV f).all (fun u => decide (zab D (t.set 0 (-1)) u = 0)) = (zga f).all (zhe (zR f) (ze8 (zA f) 0)):=by
      have e7 : ze8 (zA f) 0 = t.set 0 (-1):=zwK l Q;rw [e7];unfold zga;rw [yH];refine zlb fun u hu => ?_
      show decide (zab D (t.set 0 (-1)) u = 0) = zhe (zR f) (t.set 0 (-1)) (ziR u)
      obtain ⟨uo,ua⟩:=W u hu;unfold zab zhe;rw [B u hu];have H : (ziR u).v = u.v:=rfl;have N : (ziR u).block = u.block:=rfl;rw [H,N];obtain ⟨d,a⟩ : ∃ d,d = zhA (zR f) u.v:=⟨_,rfl⟩;rw [← a]
      have G : d ∈ zR f:=by
       obtain ⟨p,n⟩:=k u hu;have L:=ziv (zR f) u.v 0
       have Y : 0 ≤ zy u.v 0 (zR f):=by
        by_cases c : zy u.v 0 (zR f) < 0
        ·have:=L.1.1 c
         rw [n] at this;cases this
        ·omega
       have X:=zjx u.v (zR f) 0 Y;rw [a];unfold zhA;rw [yf,yn (by omega)];exact yt _
      obtain ⟨db,da⟩:=P d G
      show decide ((if d.block < 0 then (0 : Int) else if (d.block = u.block ∧ d.at' < u.at') ∨ (d.block ≠ u.block ∧ ziA (t.set 0 (-1)) d.block u.block = true) then 0 else 7) = 0) = _
      by_cases c1 : d.block < 0
      ·rw [if_pos c1,decide_eq_true c1]; rfl
      ·rw [if_neg c1,decide_eq_false c1]
       have dO:=db.resolve_left c1;have z:=zvJ Q dO uo
       by_cases c2 : d.block = u.block
       ·have V : (d.at' < u.at') ↔ (d.at' < (ziR u).at'):=by
         show _ ↔ d.at' < (if u.at' = 1048576 then 1000 else u.at')
         split <;> omega
        by_cases c3 : d.at' < u.at'
        ·rw [if_pos (.inl ⟨c2,c3⟩),decide_eq_true c2,decide_eq_true (V.1 c3)]; rfl
        ·rw [if_neg (fun h => h.elim (fun h => c3 h.2) (fun h => h.1 c2)),decide_eq_true c2,decide_eq_false (fun h => c3 (V.2 h))]; rfl
       ·rw [decide_eq_false c2]
        by_cases c4 : ziA (t.set 0 (-1)) d.block u.block = true
        ·rw [if_pos (.inr ⟨c2,c4⟩),decide_eq_true (z.2 c4)]; rfl
        ·rw [if_neg (fun h => h.elim (fun h => c2 h.1) (fun h => c4 h.2)),decide_eq_false (fun h => c4 (z.1 h))]; rfl
     rw [f3,a3];cases b3 : (zga f).all (zhe (zR f) (ze8 (zA f) 0)) <;> simp
theorem zrJ {f : PFunc} (hf : okF f) (level : Int) : ziO f level (zzP f) = zdw f level:=by
 unfold ziO
 by_cases a : level < 0 ∨ 2 < level
 ·rw [if_pos a]
  unfold zdw;rw [if_pos a]
 ·rw [if_neg a]
  cases hm : zpM f
  ·unfold zfg zdw
   rw [if_neg a,if_pos hm,if_pos hm]
  ·exact (zxx hf level hm).resolve_right a
end AC
namespace AC
open Go Go.A
abbrev zCl:=List (Int × Int)
def op0 : POp:=⟨0,0,0,0,[],0⟩
def onB (ops : List POp) (a k : Nat) : Bool:=decide (k < a) && ((decide ((ops.getD k op0).dst ≠ 0) && decide ((ops.getD k op0).dst ∈ (ops.getD a op0).args)) || (!pure (ops.getD k op0).kind && !pure (ops.getD a op0).kind))
def zvg (ops : List POp) (a : Nat) : List Int:=((yz a).filter (onB ops a)).map yM
theorem zwr {ops : List POp} {a : Nat} {x : Int} : x ∈ zvg ops a ↔ ∃ k : Nat,(k : Int) = x ∧ onB ops a k = true:=by
 unfold zvg;rw [yr];constructor
 ·rintro ⟨k,b,rfl⟩
  exact ⟨k,rfl,(yJ.1 b).2⟩
 ·rintro ⟨k,rfl,b⟩
  refine ⟨k,yJ.2 ⟨?_,b⟩,rfl⟩;unfold onB at b;simp only [ya,decide_eq_true_eq] at b;exact yx.2 b.1
structure OneDef (ops : List POp) : Prop where
 pos : ∀ o ∈ ops,0 ≤ o.dst
 one : ∀ i j (hi : i < ops.length) (hj : j < ops.length),0 < ops[i].dst → ops[i].dst = ops[j].dst → i = j
def ints (n : Nat) : List Int:=(yz n).map yM
theorem ztn {n : Nat} {x : Int} : x ∈ ints n ↔ 0 ≤ x ∧ x < (n : Int):=by
 unfold ints;rw [yr];constructor
 ·rintro ⟨k,a,rfl⟩
  have:=yx.1 a;exact ⟨by show (0 : Int) ≤ (k : Int); omega,by show (k : Int) < _; omega⟩
 ·rintro ⟨c,b⟩
  exact ⟨x.toNat,yx.2 (by omega),by show (x.toNat : Int) = x; omega⟩
theorem zzM (n : Nat) : (ints n).length = n:=by simp [ints]
theorem zvc (n : Nat) : (ints n).Nodup:=by
 unfold ints;refine List.Pairwise.map (R:=(· ≠ ·)) _ (fun x y h e => h ?_) List.nodup_range;exact Int.ofNat.inj e
theorem zxr (n : Nat) : ints (n + 1) = ints n ++ [(n : Int)]:=by simp [ints,List.range_succ]
theorem zmK : ∀ (n : Nat) (l : List Int),l.length = n → (∀ i : Nat,i < n → (i : Int) ∈ l) → l.Perm (ints n)
 | 0,l,h,_ => by
   rw [List.eq_nil_of_length_eq_zero h];exact List.Perm.refl _
 | n + 1,l,h,hm => by
   have a:=hm n (Nat.lt_succ_self n);have p:=List.perm_cons_erase a;have b : (l.erase (n : Int)).length = n:=(by rw [List.length_erase_of_mem a]; omega);have c:=zmK n (l.erase (n : Int)) b fun i d => (List.mem_erase_of_ne (by omega)).2 (hm i (by omega));rw [zxr];exact p.trans ((List.Perm.cons _ c).trans (List.perm_append_singleton _ _).symm)
theorem zpG {n : Nat} {l : List Int} (h : l.length = n) (hd : l.Nodup) (c : ∀ x ∈ l,0 ≤ x ∧ x < (n : Int)) : l.Perm (ints n):=by
 refine zmK n l h fun i d => ?_;refine Classical.byContradiction fun b => ?_
 have:=zf0 (l:=(i : Int) :: l) (n:=n) (yv.2 ⟨b,hd⟩) fun x a => by
  rcases yh.1 a with rfl | a
  ·exact ⟨by omega,by omega⟩
  ·exact c x a
 simp only [yg] at this;omega
theorem zuL {l : List Int} : l.Nodup ↔ ∀ i (a : i < l.length),l[i] ∉ l.take i:=by
 constructor
 ·intro h i a hm
  obtain ⟨j,b,e⟩:=yw.1 hm;simp only [yG] at b;rw [yD] at e;have:=(List.getElem_inj (h₀:=by omega) (h₁:=a) h).1 e;omega
 ·intro h
  unfold List.Nodup;rw [List.pairwise_iff_getElem];intro i j a b c e;refine h j b (yw.2 ⟨i,by simp only [yG]; omega,?_⟩);rw [yD]; exact e
structure LegalP (ops : List POp) (order : List Int) : Prop where
 perm : order.Perm (ints ops.length)
 ahead : ∀ i k (hi : i < order.length) (hk : k < order.length),i < k → onB ops order[i].toNat order[k].toNat = false
theorem LegalP.len {ops : List POp} {order : List Int} (h : LegalP ops order) : order.length = ops.length:=by rw [h.perm.length_eq,zzM]
theorem LegalP.nodup {ops : List POp} {order : List Int} (h : LegalP ops order) : order.Nodup:=h.perm.nodup_iff.2 (zvc _)
theorem LegalP.range {ops : List POp} {order : List Int} (h : LegalP ops order) : ∀ x ∈ order,0 ≤ x ∧ x < (ops.length : Int):=fun x a => ztn.1 (h.perm.mem_iff.1 a)
theorem LegalP.all {ops : List POp} {order : List Int} (h : LegalP ops order) {x : Int} (b : 0 ≤ x) (a : x < (ops.length : Int)) : x ∈ order:=h.perm.mem_iff.2 (ztn.2 ⟨b,a⟩)
theorem getD_map {α : Type} (g : Nat → List α) (n k : Nat) (a : k < n) : ((yz n).map g).getD k [] = g k:=by
 rw [yf,List.getElem?_map,List.getElem?_range a]; rfl
def zsv (on : List (List Int)) (out : List Int) (a : Nat) : Bool:=!decide ((a : Int) ∈ out) && (on.getD a []).all fun y => decide (y ∈ out)
structure OutIs (ops : List POp) (out : List Int) : Prop where
 nodup : out.Nodup
 range : ∀ x ∈ out,0 ≤ x ∧ x < (ops.length : Int)
 ahead : ∀ i (hi : i < out.length),∀ y ∈ zvg ops out[i].toNat,y ∈ out.take i
theorem OutIs.le {ops : List POp} {out : List Int} (h : OutIs ops out) : out.length ≤ ops.length:=zf0 h.nodup h.range
theorem zw1 {ops : List POp} {out : List Int} {a : Nat} (b : a < ops.length) : zsv ((yz ops.length).map (zvg ops)) out a = true ↔ (a : Int) ∉ out ∧ ∀ y ∈ zvg ops a,y ∈ out:=by
 unfold zsv;rw [getD_map _ _ _ b];simp
theorem OutIs.step {ops : List POp} {out : List Int} (h : OutIs ops out) {a : Nat} (k : a < ops.length) (j : zsv ((yz ops.length).map (zvg ops)) out a = true) : OutIs ops (out ++ [(a : Int)]):=by
 obtain ⟨l,f⟩:=(zw1 k).1 j;refine ⟨?_,fun x d => ?_,fun i g y b => ?_⟩
 ·rw [List.nodup_append]
  refine ⟨h.nodup,by simp,fun x d y b e => ?_⟩;rw [yl.1 b] at e;exact l (e ▸ d)
 ·rcases yb.1 d with d | d
  ·exact h.range x d
  ·rw [yl.1 d]; omega
 ·by_cases c : i < out.length
  ·rw [List.getElem_append_left c] at b
   have:=h.ahead i c y b;rw [List.take_append_of_le_length (by omega)];exact this
  ·have e : i = out.length:=by simp at g; omega
   subst e;rw [List.getElem_append_right (Nat.le_refl _)] at b;simp only [Nat.sub_self,List.getElem_singleton,yy] at b;rw [List.take_left];exact f y b
theorem OutIs.legal {ops : List POp} {out : List Int} (h : OutIs ops out) (e : out.length = ops.length) : LegalP ops out:=by
 refine ⟨zpG e h.nodup h.range,fun i k b a d => ?_⟩
 cases c : onB ops out[i].toNat out[k].toNat with
 | false => rfl
 | true =>
   exfalso;have f:=(h.range _ (yt a)).1;have hm:=h.ahead i b out[k] (zwr.2 ⟨out[k].toNat,by omega,c⟩);exact zuL.1 h.nodup k a (List.mem_of_mem_take (i:=i) (by rw [List.take_take,Nat.min_eq_left (by omega)]; exact hm))
def zwf (tree : List Int) (d u : Use) : Prop:=d.block < 0 ∨ (d.block = u.block ∧ d.at' < u.at') ∨ (d.block ≠ u.block ∧ zmH tree d.block u.block = d.block)
structure RightP (f : PFunc) (level : Int) : Prop where
 lvl : 0 ≤ level ∧ level ≤ 2
 may : zpM f = true
 shape : zls f = true
 typed : zfn f level = true
 values : ∀ d ∈ zR f,value d.v = true
 once : ((zR f).map Use.v).Nodup
 uses : ∀ u ∈ zga f,∃ d ∈ zR f,d.v = u.v ∧ d.shape = u.shape ∧ zwf (ze8 (zA f) 0) d u
theorem zny : ∀ (l pre : List Use),zeh pre l = true ↔ (∀ u ∈ l,value u.v = true) ∧ (l.map Use.v).Nodup ∧ ∀ u ∈ l,∀ x ∈ pre,x.v ≠ u.v
 | [],pre => by simp [zeh]
 | u :: r,pre => by
   rw [zeh,ya,ya,zny r (pre ++ [u]),zkT,yC,yv];constructor
   ·rintro ⟨⟨d,f⟩,g,c,h⟩
    refine ⟨fun x a => ?_,⟨fun hm => ?_,c⟩,fun x a y b => ?_⟩
    ·rcases yh.1 a with rfl | a
     ·exact d
     ·exact g x a
    ·obtain ⟨x,a,e⟩:=yr.1 hm
     exact h x a u (by simp) e.symm
    ·rcases yh.1 a with rfl | a
     ·exact f y b
     ·exact h x a y (by simp [b])
   ·rintro ⟨d,⟨f,g⟩,c⟩
    refine ⟨⟨d u yi,c u yi⟩,fun x a => d x (ye _ a),g,fun x a y b => ?_⟩;rcases yb.1 b with b | b
    ·exact c x (ye _ a) y b
    ·rw [yl.1 b]
     exact fun e => f (yr.2 ⟨x,a,e.symm⟩)
theorem zf3 : ∀ {defs : List Use},(defs.map Use.v).Nodup → ∀ {d : Use},d ∈ defs → defs.find? (fun u => decide (u.v = d.v)) = some d
 | [],_,_,hd => by simp at hd
 | x :: r,hn,d,hd => by
   rw [yC,yv] at hn;rw [ys];rcases yh.1 hd with rfl | hd
   ·simp
   ·rw [decide_eq_false (fun e => hn.1 (yr.2 ⟨d,hd,e.symm⟩))]
    exact zf3 hn.2 hd
theorem zgC {defs : List Use} (e : (defs.map Use.v).Nodup) {d : Use} (hd : d ∈ defs) : ¬ zy d.v 0 defs < 0 ∧ zhA defs d.v = d:=by
 obtain ⟨g,a⟩:=ziv defs d.v 0;have f:=zf3 e hd
 have b : ¬ zy d.v 0 defs < 0:=fun c => by
  have:=zkT.1 (g.1 c) d hd;exact this rfl
 refine ⟨b,?_⟩;have:=a (by omega);rw [show zy d.v 0 defs - ((0 : Nat) : Int) = zy d.v 0 defs by omega,f] at this;unfold zhA;rw [yf,this];rfl
theorem zwB {defs : List Use} {v : Int} (h : ¬ zy v 0 defs < 0) : ∃ d ∈ defs,d.v = v:=by
 obtain ⟨b,_⟩:=ziv defs v 0;refine Classical.byContradiction fun a => h (b.2 (zkT.2 fun u hu e => a ⟨u,hu,e⟩))
theorem zmO {defs : List Use} (a : (defs.map Use.v).Nodup) {d : Use} (hd : d ∈ defs) (tree : List Int) (u : Use) (e : d.v = u.v) : zhe defs tree u = true ↔ zwf tree d u:=by
 unfold zhe zwf;rw [← e,(zgC a hd).2];simp only [Bool.or_eq_true,ya,decide_eq_true_eq,yE,Bool.or_eq_false_iff,decide_eq_false_iff_not,Bool.not_eq_false',or_assoc]
theorem zle {f : PFunc} {level : Int} : zdw f level = 0 ↔ RightP f level:=by
 unfold zdw;constructor
 ·intro h
  split at h
  ·omega
  rename_i c1;split at h
  ·omega
  rename_i c2;split at h
  ·omega
  rename_i c3;split at h
  ·omega
  rename_i c4;split at h
  ·omega
  rename_i c5;split at h
  ·omega
  rename_i c6;split at h
  ·omega
  rename_i c7;split at h
  ·omega
  rename_i c8;simp only [Bool.not_eq_false] at c2 c3 c4 c5 c6 c7 c8;have b:=(zp8 (zR f) (zR f) [] rfl).symm.trans c5;obtain ⟨v1,v2,_⟩:=(zny _ _).1 b;refine ⟨by omega,c2,c3,c4,v1,v2,fun u hu => ?_⟩;have c:=yd.1 c6 u hu;have a:=yd.1 c7 u hu;have j:=yd.1 c8 u hu;unfold zn6 at c;simp only [yE,decide_eq_false_iff_not] at c;obtain ⟨d,hd,e⟩:=zwB c;refine ⟨d,hd,e,?_,(zmO v2 hd _ u e).1 j⟩;unfold sameShape at a;rw [← e,(zgC v2 hd).2] at a;simpa using a
 ·intro h
  have b : zgq (zR f) 0 (zR f) = true:=(zp8 (zR f) (zR f) [] rfl).trans ((zny _ _).2 ⟨h.values,h.once,fun _ _ _ g => by simp at g⟩)
  have a6 : (zga f).all (zn6 (zR f)) = true:=yd.2 fun u hu => by
   obtain ⟨d,hd,e,_⟩:=h.uses u hu;unfold zn6;rw [← e];simpa using (zgC h.once hd).1
  have a7 : (zga f).all (sameShape (zR f)) = true:=yd.2 fun u hu => by
   obtain ⟨d,hd,e,es,_⟩:=h.uses u hu;unfold sameShape;rw [← e,(zgC h.once hd).2,decide_eq_true_eq];exact es
  have a8 : (zga f).all (zhe (zR f) (ze8 (zA f) 0)) = true:=yd.2 fun u hu => by
   obtain ⟨d,hd,e,_,i⟩:=h.uses u hu;exact (zmO h.once hd _ u e).2 i
  have k:=h.lvl;rw [if_neg (by omega),if_neg (by simp [h.may]),if_neg (by simp [h.shape]),if_neg (by simp [h.typed]),if_neg (by simp [b]),if_neg (by simp [a6]),if_neg (by simp [a7]),if_neg (by simp [a8])]
theorem zdV {f : PFunc} {level : Int} (h : zfn f level = true) {b : PBlock} (a : b ∈ f.blocks) {o : POp} (c : o ∈ b.ops) : zeI o = true:=by
 unfold zfn at h;simp only [ya,yd] at h;have:=h.2.2 b a;unfold zjS at this;simp only [ya,yd] at this;have:=this.2 o c;unfold ofS at this;simp only [ya] at this;exact this.2.2
theorem zrs {o : POp} (h : zeI o = true) (hd : 0 < o.dst) : 0 < (zN o).1:=by
 unfold zN;unfold zeI at h;simp only [ya] at h;have hm : zeI o = true:=by unfold zeI; simp only [ya]; exact h
 cases c : zdz o.kind
 ·rw [if_neg (by simp [hm])]
  split
  ·decide
  ·have a:=h.1
   unfold zdl at a
   have b : 0 < o.bits:=by
    simp only [ya] at a;have:=zbM a.1;omega
   split <;> exact b
 ·rw [c] at h
  simp at h;omega
theorem zAv {o : POp} (h : zeI o = true) : 0 ≤ o.dst:=by
 unfold zeI at h;simp only [ya] at h;have:=h.2.2.1;split at this
 ·simp at this; omega
 ·have:=zki.1 this; omega
theorem RightP.size {f : PFunc} {level : Int} (h : RightP f level) {b : PBlock} (a : b ∈ f.blocks) : b.ops.length ≤ 1000 ∧ ∀ o ∈ b.ops,o.args.length ≤ 64:=by
 have c:=zoz h.may;refine ⟨zmt c.2.2.2.1 b a,?_⟩;exact (zuJ (c.2.2.2.2 b a)).2
end AC
namespace AC
open Go Go.A Go.A.Lex
def zkC (f : PFunc) (k : Int) : Bool:=decide (0 ≤ k) && (decide (k < f.blocks.length) && decide (zdw f 2 = 0))
theorem znF {f : PFunc} {k : Int} : zkC f k = true ↔ 0 ≤ k ∧ k < f.blocks.length ∧ RightP f 2:=by
 unfold zkC;simp only [ya,decide_eq_true_eq,zle]
def vIv (k : Int) : V:=.one (.f (.lit (.int .i64 k)))
def ztF (n at' : Nat) (es : List (List C)) (l : List Int) (σ : zb) : zb :=
 (σ.set (1 + at') (.cells l.length 1 (l.map zF))).set (n + 1) (.cells 0 1 (es.set at' [.own (1 + at') l.length 0 l.length]))
structure RInv (n at' : Nat) (D : zCl) (es : List (List C)) (l : List Int) (σ : zb) : Prop where
 len : σ.length ≤ 1000000
 elen : es.length = n
 main : σ[n + 1]? = some (.cells 0 1 es)
 at0 : es[at']? = some [.own (1 + at') l.length 0 l.length]
 row : σ[1 + at']? = some (.cells l.length 1 (l.map zF))
 map : σ[n + 2]? = some (.mp (zdj vIv D))
theorem RInv.step {n at' : Nat} {D : zCl} {es : List (List C)} {l : List Int} {σ : zb} (h : RInv n at' D es l σ) (hat : at' < n) (a : List Int) :
  RInv n at' D (es.set at' [.own (1 + at') a.length 0 a.length]) a (ztF n at' es a σ):=by
 have c : n + 1 < σ.length:=(yc.1 h.main).1;have b : 1 + at' < σ.length:=(yc.1 h.row).1;unfold ztF;refine ⟨by simp only [yK]; exact h.len,by rw [yK]; exact h.elen,?_,?_,?_,?_⟩
 ·rw [yo (by simpa using c)]
 ·rw [yo (by rw [h.elen]; exact hat)]
 ·rw [yq (by omega),yo b]
 ·rw [yq (by omega),yq (by omega)]
  exact h.map
theorem RInv.same {n at' : Nat} {D : zCl} {es : List (List C)} {l : List Int} {σ : zb} (h : RInv n at' D es l σ) : ztF n at' es l σ = σ:=by
 unfold ztF;obtain ⟨c,he⟩:=yc.1 h.at0;have d : es.set at' [.own (1 + at') l.length 0 l.length] = es:=by rw [← he]; exact yp c
 rw [d]
 have e2 : σ.set (1 + at') (.cells l.length 1 (l.map zF)) = σ:=by
  obtain ⟨b,a⟩:=yc.1 h.row;rw [← a]; exact yp b
 rw [e2];obtain ⟨b,a⟩:=yc.1 h.main;rw [← a]; exact yp b
section
variable (n at' : Nat) (hn : n ≤ 1000) (hat : at' < n) (D : zCl) (args : List Int) (hargs : args.length ≤ 4294967296) (v5 v7 v11 v12 v13 : V)
include hn hat hargs
end
structure HG (n k : Nat) (D : zCl) (imp : List Int) (done : List (List Int)) (σ : zb) : Prop where
 len : σ.length ≤ n + 4 + k
 len2 : n + 4 ≤ σ.length
 dlen : done.length = k
 main : ∃ es,σ[n + 1]? = some (.cells 0 1 es) ∧ es.length = n ∧ (∀ i (h : i < done.length),es[i]? = some [.f (.sl (done[i].map ri))]) ∧ ∀ i,k ≤ i → i < n → es[i]? = some [.own (1 + i) 0 0 0]
 rows : ∀ i,k ≤ i → i < n → σ[1 + i]? = some (.cells 0 1 [])
 map : σ[n + 2]? = some (.mp (zdj vIv D))
 tok : σ[n + 3]? = some (.tok 1 [imp.length])
end AC
namespace AC
open Go Go.A
theorem zjq (i : Int) (u : Use) : ∀ (l : List POp) (k : Nat),u ∈ zJ i k l ↔ ∃ j o,l[j]? = some o ∧ u ∈ ztD o i ((k + j : Nat) : Int)
 | [],k => by simp [zJ]
 | o :: l,k => by
   rw [zJ,yb,zjq i u l (k + 1)];constructor
   ·rintro (h | ⟨j,x,a,b⟩)
    ·exact ⟨0,o,rfl,h⟩
    ·exact ⟨j + 1,x,by simpa using a,by rwa [show k + (j + 1) = k + 1 + j by omega]⟩
   ·rintro ⟨j,x,a,b⟩
    cases j with
    | zero =>
      simp only [yj,Option.some.injEq] at a;subst a;exact .inl b
    | succ j => exact .inr ⟨j,x,by simpa using a,by rwa [show k + 1 + j = k + (j + 1) by omega]⟩
theorem zhg (f : PFunc) (u : Use) : ∀ (l : List PBlock) (k : Nat),u ∈ zcq f k l ↔ ∃ j b,l[j]? = some b ∧ u ∈ zhb f ((k + j : Nat) : Int) b
 | [],k => by simp [zcq]
 | b :: l,k => by
   rw [zcq,yb,zhg f u l (k + 1)];constructor
   ·rintro (h | ⟨j,x,a,c⟩)
    ·exact ⟨0,b,rfl,h⟩
    ·exact ⟨j + 1,x,by simpa using a,by rwa [show k + (j + 1) = k + 1 + j by omega]⟩
   ·rintro ⟨j,x,a,c⟩
    cases j with
    | zero =>
      simp only [yj,Option.some.injEq] at a;subst a;exact .inl c
    | succ j => exact .inr ⟨j,x,by simpa using a,by rwa [show k + 1 + j = k + (j + 1) by omega]⟩
theorem zh5 (i : Int) (d : Use) : ∀ (l : List POp) (k : Nat),d ∈ zev i k l ↔ ∃ j o,l[j]? = some o ∧ 0 < (zN o).1 ∧ d = ⟨o.dst,zN o,i,((k + j : Nat) : Int)⟩
 | [],k => by simp [zev]
 | o :: l,k => by
   have f:=zh5 i d l (k + 1);rw [zev];constructor
   ·intro h
    have key : d ∈ zev i (k + 1) l → ∃ j x,(o :: l)[j]? = some x ∧ 0 < (zN x).1 ∧ d = ⟨x.dst,zN x,i,((k + j : Nat) : Int)⟩:=fun h => by
     obtain ⟨j,x,a,b,e⟩:=f.1 h;exact ⟨j + 1,x,by simpa using a,b,by rw [e,show k + (j + 1) = k + 1 + j by omega]⟩
    split at h
    ·rename_i c
     rcases yh.1 h with h | h
     ·exact ⟨0,o,rfl,c,h⟩
     ·exact key h
    ·exact key h
   ·rintro ⟨j,x,a,b,e⟩
    cases j with
    | zero =>
      simp only [yj,Option.some.injEq] at a;subst a;rw [if_pos b];exact yh.2 (.inl e)
    | succ j =>
      have:=f.2 ⟨j,x,by simpa using a,b,by rw [e,show k + (j + 1) = k + 1 + j by omega]⟩;split
      ·exact ye _ this
      ·exact this
theorem zd4 (d : Use) : ∀ (l : List PBlock) (k : Nat),d ∈ zaz k l ↔ ∃ j b,l[j]? = some b ∧ (d ∈ zgL ((k + j : Nat) : Int) b.phis ∨ d ∈ zev ((k + j : Nat) : Int) 0 b.ops)
 | [],k => by simp [zaz]
 | b :: l,k => by
   rw [zaz,yb,yb,zd4 d l (k + 1)];constructor
   ·rintro (h | h | ⟨j,x,c,a⟩)
    ·exact ⟨0,b,rfl,.inl h⟩
    ·exact ⟨0,b,rfl,.inr h⟩
    ·exact ⟨j + 1,x,by simpa using c,by rwa [show k + (j + 1) = k + 1 + j by omega]⟩
   ·rintro ⟨j,x,c,a⟩
    cases j with
    | zero =>
      simp only [yj,Option.some.injEq] at c;subst c;rcases a with a | a
      ·exact .inl a
      ·exact .inr (.inl a)
    | succ j => exact .inr (.inr ⟨j,x,by simpa using c,by rwa [show k + 1 + j = k + (j + 1) by omega]⟩)
def zDb (ops : List POp) (order : List Int) : List POp:=order.map fun a => ops.getD a.toNat op0
def zDf (b : PBlock) (order : List Int) : PBlock:=⟨b.phis,zDb b.ops order,b.kind,b.arg,b.to⟩
def zDN (f : PFunc) (k : Nat) (order : List Int) : PFunc:=match f.blocks[k]? with
 | some b => ⟨f.params,f.ret,f.blocks.set k (zDf b order)⟩
 | none => f
section
variable {f : PFunc} {k : Nat} {b : PBlock} (hb : f.blocks[k]? = some b) (order : List Int)
include hb
end
section
variable {f : PFunc} {k : Nat} {b : PBlock} (hb : f.blocks[k]? = some b) {order : List Int} (hl : LegalP b.ops order)
include hb hl
end
end AC

/- A part of the proof of SchedBack. Conditions: none. -/
import Derived.Test.YtmkncmffaaninaaGreatBAW
import Derived.Test.YtmkncmffaaninaaGreatBAV
import Derived.Test.YtmkncmffaaninaaGreatBAZ
import Derived.Test.YtmkncmffaaninaaGreatBAT
set_option linter.unusedVariables false
set_option linter.unusedSimpArgs false
set_option linter.unusedSectionVars false
open Bool renaming and_eq_true → ya,or_eq_true → ys,not_eq_true' → yu
open List renaming getD_eq_getElem?_getD → yb,mem_cons_self → yc,getElem?_eq_getElem → yd,all_eq_true → ye,mem_cons_of_mem → yf,getElem?_eq_some_iff → yg,mem_cons → yh,mem_iff_getElem → yi,sublist_append_right → yj,pairwise_cons → yk,getElem?_set_ne → yl,mem_map → ym,length_cons → yn,range → yo,getElem_mem → yp,mem_range → yq,getElem?_set_self → yr,nodup_cons → yt,set_getElem_self → yv,mem_filter → yw,drop_eq_getElem_cons → yy,mem_singleton → yA,append_assoc → yB,getElem_take → yC,getElem?_cons_zero → yD,getElem_cons_succ → yE,length_take → yF,mem_append → yG,mem_of_mem_take → yH,map_cons → yK,filter_cons → yL,set_set → yN,range_succ → yO,nil_append → yP,length_set → yQ,take_take → yR
open Nat renaming lt_succ_iff_lt_or_eq → yx,lt_trichotomy → yJ,min_eq_left → yM
open Int renaming toNat_natCast → yz,lt_irrefl → yI,ofNat → yS
open Iff renaming rfl → yT
namespace AC
open Go Go.A
abbrev zmY:=List (Int × Int)
def ze6 (D : zmY) : List Int → List Int
 | [] => []
 | v :: r => match getM v D with
   | some k => k :: ze6 D r
   | none => ze6 D r
def ziG (D : zmY) (imp : List Int) (o : POp) : List Int:=zq (zbG (ze6 D o.args ++ if pure o.kind = true then [] else imp))
def zcn (D : zmY) (k : Nat) (o : POp) : zmY:=if 0 < o.dst then zh7 o.dst (k : Int) D else D
def zfW (imp : List Int) (k : Nat) (o : POp) : List Int:=if pure o.kind = true then imp else imp ++ [(k : Int)]
def zbZ : Nat → zmY → List Int → List POp → List (List Int)
 | _,_,_,[] => []
 | k,D,imp,o :: r => ziG D imp o :: zbZ (k + 1) (zcn D k o) (zfW imp k o) r
def zgI (b : PBlock) : List (List Int):=zbZ 0 [] [] b.ops
theorem zgA : ∀ (ops : List POp) (k : Nat) (D : zmY) (imp : List Int),(zbZ k D imp ops).length = ops.length
 | [],_,_,_ => rfl
 | o :: r,k,D,imp => by rw [zbZ,yn,zgA r,yn]
theorem zjC (D : zmY) : ∀ l,(ze6 D l).length ≤ l.length
 | [] => by simp [ze6]
 | v :: r => by
   rw [ze6]
   have:=zjC D r
   split
   ·simp only [yn]; omega
   ·simp only [yn]; omega
theorem znG (D : zmY) (k : Int) : ∀ l,k ∈ ze6 D l ↔ ∃ v ∈ l,getM v D = some k
 | [] => by simp [ze6]
 | v :: r => by
   rw [ze6]
   have ih:=znG D k r
   cases e : getM v D with
   | none => simp [ih,e]
   | some j =>
     simp only [yh,ih,exists_eq_or_imp,e,Option.some.injEq]
     exact or_congr ⟨fun h => h.symm,fun h => h.symm⟩ yT
theorem zrS {α : Type} (k v : Int) (a : α) : ∀ S : List (Int × α),getM v (zh7 k a S) = if k = v then some a else getM v S
 | [] => rfl
 | e :: r => by
   simp only [zh7]
   by_cases c : e.1 = k
   ·rw [if_pos c,getM,getM]
    by_cases d : k = v
    ·rw [if_pos d,if_pos d]
    ·rw [if_neg d,if_neg d,if_neg (fun h => d (c.symm.trans h))]
   ·rw [if_neg c,getM,getM,zrS k v a r]
    by_cases d : e.1 = v
    ·rw [if_pos d,if_pos d,if_neg (fun h => c (d.trans h.symm))]
    ·rw [if_neg d,if_neg d]
abbrev zBq (l : List Int) : Prop:=l.Pairwise (· < ·)
theorem zfM (x : Int) : ∀ l,x ∈ zq l ↔ x ∈ l
 | [] => yT
 | [y] => yT
 | y :: z :: r => by
   rw [zq]
   by_cases c : y = z
   ·rw [if_pos c,zfM x (z :: r),c]
    simp
   ·rw [if_neg c,yh,zfM x (z :: r),yh (l:=z :: r)]
theorem zg6 : ∀ l : List Int,l.Pairwise (· ≤ ·) → zBq (zq l)
 | [],_ => List.Pairwise.nil
 | [y],_ => by simp [zq]
 | y :: z :: r,h => by
   rw [zq]
   have ht:=(yk.1 h).2
   by_cases c : y = z
   ·rw [if_pos c]; exact zg6 _ ht
   ·rw [if_neg c]
    refine yk.2 ⟨fun x hx => ?_,zg6 _ ht⟩
    rw [zfM] at hx
    have h1:=(yk.1 h).1 z yc
    have h2 : z ≤ x:=by
     rcases yh.1 hx with rfl | hx
     ·exact Int.le_refl _
     ·exact (yk.1 ht).1 x hx
    omega
theorem zya (x : Int) (l : List Int) : x ∈ zbG l ↔ x ∈ l:=by
 unfold zbG
 exact (List.mergeSort_perm l _).mem_iff
theorem zzT (l : List Int) : (zbG l).Pairwise (· ≤ ·):=by
 unfold zbG
 refine (List.pairwise_mergeSort (fun a b c h1 h2 => ?_) (fun a b => ?_) l).imp fun h => by simpa using h
 ·simp only [decide_eq_true_eq] at *; omega
 ·simp only [ys,decide_eq_true_eq]; omega
theorem zsL : ∀ {a b : List Int},zBq a → zBq b → (∀ x,x ∈ a ↔ x ∈ b) → a = b
 | [],[],_,_,_ => rfl
 | [],y :: b,_,_,h => absurd ((h y).2 yc) (by simp)
 | x :: a,[],_,_,h => absurd ((h x).1 yc) (by simp)
 | x :: a,y :: b,ha,hb,h => by
   obtain ⟨a1,a2⟩:=yk.1 ha
   obtain ⟨b1,b2⟩:=yk.1 hb
   have e : x = y:=by
    rcases yh.1 ((h x).1 yc) with e | hx
    ·exact e
    ·rcases yh.1 ((h y).2 yc) with e | hy
     ·exact e.symm
     ·have:=a1 y hy; have:=b1 x hx; omega
   subst e
   congr 1
   refine zsL a2 b2 fun z => ⟨fun hz => ?_,fun hz => ?_⟩
   ·rcases yh.1 ((h z).1 (yf _ hz)) with rfl | h'
    ·exact absurd (a1 z hz) (yI _)
    ·exact h'
   ·rcases yh.1 ((h z).2 (yf _ hz)) with rfl | h'
    ·exact absurd (b1 z hz) (yI _)
    ·exact h'
def op0 : POp:=⟨0,0,0,0,[],0⟩
def onB (ops : List POp) (a k : Nat) : Bool:=decide (k < a) && ((decide ((ops.getD k op0).dst ≠ 0) && decide ((ops.getD k op0).dst ∈ (ops.getD a op0).args)) || (!pure (ops.getD k op0).kind && !pure (ops.getD a op0).kind))
def zi3 (ops : List POp) (a : Nat) : List Int:=((yo a).filter (onB ops a)).map yS
theorem zhk {ops : List POp} {a : Nat} {x : Int} : x ∈ zi3 ops a ↔ ∃ k : Nat,(k : Int) = x ∧ onB ops a k = true:=by
 unfold zi3
 rw [ym]
 constructor
 ·rintro ⟨k,hk,rfl⟩
  exact ⟨k,rfl,(yw.1 hk).2⟩
 ·rintro ⟨k,rfl,hk⟩
  refine ⟨k,yw.2 ⟨?_,hk⟩,rfl⟩
  unfold onB at hk
  simp only [ya,decide_eq_true_eq] at hk
  exact yq.2 hk.1
theorem zt1 (ops : List POp) (a : Nat) : zBq (zi3 ops a):=by
 unfold zi3
 refine List.Pairwise.map (R:=(· < ·)) _ (fun x y h => by simpa using h) ?_
 exact List.Pairwise.filter _ List.pairwise_lt_range
structure OneDef (ops : List POp) : Prop where
 pos : ∀ o ∈ ops,0 ≤ o.dst
 one : ∀ i j (hi : i < ops.length) (hj : j < ops.length),0 < ops[i].dst → ops[i].dst = ops[j].dst → i = j
def zx4 (ops : List POp) (k : Nat) (D : zmY) : Prop:=∀ v x,getM v D = some x ↔ ∃ j : Nat,(j : Int) = x ∧ j < k ∧ 0 < v ∧ (ops.getD j op0).dst = v
def zts (ops : List POp) (k : Nat) : List Int:=((yo k).filter fun j => !pure (ops.getD j op0).kind).map yS
theorem ztn (ops : List POp) (k : Nat) (hk : k < ops.length) : zts ops (k + 1) = zfW (zts ops k) k ops[k]:=by
 unfold zts zfW
 rw [yO,List.filter_append,List.map_append]
 have e : ops.getD k op0 = ops[k]:=by rw [yb,yd hk]; rfl
 cases c : pure ops[k].kind
 ·rw [yL,e,c]; rfl
 ·rw [yL,e,c]; simp
theorem ztM {ops : List POp} (h1 : OneDef ops) {k : Nat} (hk : k < ops.length) {D : zmY} (h : zx4 ops k D) : zx4 ops (k + 1) (zcn D k ops[k]):=by
 have e : ∀ j (hj : j < ops.length),ops.getD j op0 = ops[j]:=fun j hj => by rw [yb,yd hj]; rfl
 intro v x
 unfold zcn
 by_cases c : 0 < ops[k].dst
 ·rw [if_pos c,zrS]
  by_cases d : ops[k].dst = v
  ·rw [if_pos d]
   constructor
   ·intro hx
    exact ⟨k,by simpa using hx,by omega,by omega,by rw [e k hk]; exact d⟩
   ·rintro ⟨j,rfl,hj,hv,hd⟩
    have hjl : j < ops.length:=by omega
    rw [e j hjl] at hd
    have:=h1.one k j hk hjl c (by rw [d,hd])
    rw [this]
  ·rw [if_neg d,h v x]
   constructor
   ·rintro ⟨j,h1,h2,h3,h4⟩
    exact ⟨j,h1,by omega,h3,h4⟩
   ·rintro ⟨j,h1,h2,h3,h4⟩
    refine ⟨j,h1,?_,h3,h4⟩
    rcases yx.1 h2 with h | rfl
    ·exact h
    ·rw [e j hk] at h4; exact absurd h4 d
 ·rw [if_neg c,h v x]
  constructor
  ·rintro ⟨j,h1,h2,h3,h4⟩
   exact ⟨j,h1,by omega,h3,h4⟩
  ·rintro ⟨j,h1,h2,h3,h4⟩
   refine ⟨j,h1,?_,h3,h4⟩
   rcases yx.1 h2 with h | rfl
   ·exact h
   ·rw [e j hk] at h4; omega
theorem zAQ {ops : List POp} (h1 : OneDef ops) {k : Nat} (hk : k < ops.length) {D : zmY} (h : zx4 ops k D) : ziG D (zts ops k) ops[k] = zi3 ops k:=by
 have e : ∀ j (hj : j < ops.length),ops.getD j op0 = ops[j]:=fun j hj => by rw [yb,yd hj]; rfl
 unfold ziG
 refine zsL (zg6 _ (zzT _)) (zt1 _ _) fun x => ?_
 rw [zfM,zya,yG,znG,zhk]
 constructor
 ·rintro (⟨v,hv,hx⟩ | hx)
  ·obtain ⟨j,rfl,hj,h0,hd⟩:=(h v x).1 hx
   refine ⟨j,rfl,?_⟩
   unfold onB
   rw [e k hk,hd]
   simp only [ya,ys,decide_eq_true_eq]
   exact ⟨hj,.inl ⟨by omega,hv⟩⟩
  ·split at hx
   ·simp at hx
   ·rename_i c
    unfold zts at hx
    obtain ⟨j,hj,rfl⟩:=ym.1 hx
    obtain ⟨hj1,hj2⟩:=yw.1 hj
    refine ⟨j,rfl,?_⟩
    unfold onB
    rw [e k hk]
    simp only [ya,ys,decide_eq_true_eq]
    exact ⟨yq.1 hj1,.inr ⟨hj2,by simpa using c⟩⟩
 ·rintro ⟨j,rfl,hj⟩
  unfold onB at hj
  rw [e k hk] at hj
  simp only [ya,ys,decide_eq_true_eq] at hj
  obtain ⟨hjk,hj | hj⟩:=hj
  ·refine .inl ⟨_,hj.2,(h _ _).2 ⟨j,rfl,hjk,?_,rfl⟩⟩
   have h0:=h1.pos ops[j] (yp (by omega))
   have hn:=hj.1
   rw [e j (by omega)] at hn ⊢
   omega
  ·refine .inr ?_
   rw [if_neg (by simpa using hj.2)]
   exact ym.2 ⟨j,yw.2 ⟨yq.2 hjk,hj.1⟩,rfl⟩
theorem zk7 {ops : List POp} (h1 : OneDef ops) : ∀ (d k : Nat) (D : zmY),ops.length - k = d → k ≤ ops.length → zx4 ops k D → zbZ k D (zts ops k) (ops.drop k) = (List.range' k d).map (zi3 ops)
 | 0,k,D,h2,h3,_ => by
   have : ops.drop k = []:=List.drop_eq_nil_of_le (by omega)
   rw [this]; rfl
 | d + 1,k,D,h2,h3,h => by
   have hk : k < ops.length:=by omega
   rw [yy hk,zbZ,zAQ h1 hk h,← ztn ops k hk,zk7 h1 d (k + 1) _ (by omega) (by omega) (ztM h1 hk h)]
   rfl
theorem zsj {b : PBlock} (h1 : OneDef b.ops) : zgI b = (yo b.ops.length).map (zi3 b.ops):=by
 unfold zgI
 have:=zk7 h1 b.ops.length 0 [] rfl (Nat.zero_le _) (fun v x => by simp [getM])
 rw [List.drop_zero] at this
 rw [List.range_eq_range']
 exact this
theorem zxR {ops : List POp} {a : Nat} {x : Int} (h : x ∈ zi3 ops a) : 0 ≤ x ∧ x < (a : Int):=by
 obtain ⟨k,rfl,hk⟩:=zhk.1 h
 unfold onB at hk
 simp only [ya,decide_eq_true_eq] at hk
 exact ⟨by omega,by have:=hk.1; omega⟩
end AC
namespace AC
open Go Go.A
def ints (n : Nat) : List Int:=(yo n).map yS
theorem zsM {n : Nat} {x : Int} : x ∈ ints n ↔ 0 ≤ x ∧ x < (n : Int):=by
 unfold ints
 rw [ym]
 constructor
 ·rintro ⟨k,hk,rfl⟩
  have:=yq.1 hk
  exact ⟨by show (0 : Int) ≤ (k : Int); omega,by show (k : Int) < _; omega⟩
 ·rintro ⟨h1,h2⟩
  exact ⟨x.toNat,yq.2 (by omega),by show (x.toNat : Int) = x; omega⟩
theorem zxm (n : Nat) : (ints n).length = n:=by simp [ints]
theorem ztE (n : Nat) : (ints n).Nodup:=by
 unfold ints
 refine List.Pairwise.map (R:=(· ≠ ·)) _ (fun x y h e => h ?_) List.nodup_range
 exact Int.ofNat.inj e
theorem zuM (n : Nat) : ints (n + 1) = ints n ++ [(n : Int)]:=by simp [ints,yO]
theorem zgo : ∀ (n : Nat) (l : List Int),l.length = n → (∀ i : Nat,i < n → (i : Int) ∈ l) → l.Perm (ints n)
 | 0,l,h,_ => by
   rw [List.eq_nil_of_length_eq_zero h]
   exact List.Perm.refl _
 | n + 1,l,h,hm => by
   have hn:=hm n (Nat.lt_succ_self n)
   have p:=List.perm_cons_erase hn
   have hl : (l.erase (n : Int)).length = n:=by rw [List.length_erase_of_mem hn]; omega
   have ih:=zgo n (l.erase (n : Int)) hl fun i hi => (List.mem_erase_of_ne (by omega)).2 (hm i (by omega))
   rw [zuM]
   exact p.trans ((List.Perm.cons _ ih).trans (List.perm_append_singleton _ _).symm)
theorem zjn {n : Nat} {l : List Int} (h : l.length = n) (hd : l.Nodup) (hr : ∀ x ∈ l,0 ≤ x ∧ x < (n : Int)) : l.Perm (ints n):=by
 refine zgo n l h fun i hi => ?_
 refine Classical.byContradiction fun hn => ?_
 have:=zfF (l:=(i : Int) :: l) (n:=n) (yt.2 ⟨hn,hd⟩) fun x hx => by
  rcases yh.1 hx with rfl | hx
  ·exact ⟨by omega,by omega⟩
  ·exact hr x hx
 simp only [yn] at this
 omega
def zdD (on : List (List Int)) (n : Nat) : List Int → List Int → Bool
 | _,[] => true
 | done,x :: r => (decide (0 ≤ x) && (decide (x < (n : Int)) && (!decide (x ∈ done) && (on.getD x.toNat []).all fun y => decide (y ∈ done)))) && zdD on n (done ++ [x]) r
def znY (b : PBlock) (order : List Int) : Bool:=decide (order.length = b.ops.length) && zdD (zgI b) b.ops.length [] order
def zwF (ops : List POp) (order : List Int) : Bool :=
 decide (order.length = ops.length) && (((yo order.length).all fun (i : Nat) => decide ((i : Int) ∈ order)) && (yo order.length).all fun i => (yo order.length).all fun k => !(decide (i < k) && onB ops (order.getD i 0).toNat (order.getD k 0).toNat))
theorem zkU (on : List (List Int)) (n : Nat) : ∀ (order done : List Int),zdD on n done order = true ↔ ∀ i (hi : i < order.length),0 ≤ order[i] ∧ order[i] < (n : Int) ∧ order[i] ∉ done ++ order.take i ∧ ∀ y ∈ on.getD order[i].toNat [],y ∈ done ++ order.take i
 | [],done => by simp [zdD]
 | x :: r,done => by
   rw [zdD,ya,zkU on n r (done ++ [x])]
   simp only [ya,decide_eq_true_eq,yu,decide_eq_false_iff_not,ye]
   constructor
   ·rintro ⟨⟨h1,h2,h3,h4⟩,h5⟩ i hi
    cases i with
    | zero => simpa using ⟨h1,h2,h3,h4⟩
    | succ i =>
      have:=h5 i (by simpa using hi)
      simpa [yB] using this
   ·intro h
    refine ⟨?_,fun i hi => ?_⟩
    ·have:=h 0 (by simp)
     simpa using this
    ·have:=h (i + 1) (by simpa using hi)
     simpa [yB] using this
theorem zkf {l : List Int} : l.Nodup ↔ ∀ i (hi : i < l.length),l[i] ∉ l.take i:=by
 constructor
 ·intro h i hi hm
  obtain ⟨j,hj,e⟩:=yi.1 hm
  simp only [yF] at hj
  rw [yC] at e
  have:=(List.getElem_inj (h₀:=by omega) (h₁:=hi) h).1 e
  omega
 ·intro h
  unfold List.Nodup
  rw [List.pairwise_iff_getElem]
  intro i j hi hj hij e
  refine h j hj (yi.2 ⟨i,by simp only [yF]; omega,?_⟩)
  rw [yC]; exact e
structure LegalP (ops : List POp) (order : List Int) : Prop where
 perm : order.Perm (ints ops.length)
 ahead : ∀ i k (hi : i < order.length) (hk : k < order.length),i < k → onB ops order[i].toNat order[k].toNat = false
theorem LegalP.len {ops : List POp} {order : List Int} (h : LegalP ops order) : order.length = ops.length:=by rw [h.perm.length_eq,zxm]
theorem LegalP.nodup {ops : List POp} {order : List Int} (h : LegalP ops order) : order.Nodup:=h.perm.nodup_iff.2 (ztE _)
theorem LegalP.range {ops : List POp} {order : List Int} (h : LegalP ops order) : ∀ x ∈ order,0 ≤ x ∧ x < (ops.length : Int):=fun x hx => zsM.1 (h.perm.mem_iff.1 hx)
theorem LegalP.all {ops : List POp} {order : List Int} (h : LegalP ops order) {x : Int} (h1 : 0 ≤ x) (h2 : x < (ops.length : Int)) : x ∈ order:=h.perm.mem_iff.2 (zsM.2 ⟨h1,h2⟩)
theorem znz {ops : List POp} {order : List Int} : zwF ops order = true ↔ LegalP ops order:=by
 unfold zwF
 simp only [ya,decide_eq_true_eq,ye,yq,yu,Bool.and_eq_false_iff,decide_eq_false_iff_not]
 have e : ∀ j (hj : j < order.length),order.getD j 0 = order[j]:=fun j hj => by rw [yb,yd hj]; rfl
 constructor
 ·rintro ⟨h1,h2,h3⟩
  refine ⟨?_,fun i k hi hk hik => ?_⟩
  ·rw [← h1]
   exact zgo _ _ rfl h2
  ·rcases h3 i hi k hk with h | h
   ·exact absurd hik h
   ·rwa [e i hi,e k hk] at h
 ·intro h
  refine ⟨h.len,fun i hi => h.all (by omega) (by have:=h.len; omega),fun i hi k hk => ?_⟩
  by_cases c : i < k
  ·right; rw [e i hi,e k hk]; exact h.ahead i k hi hk c
  ·exact .inl c
theorem getD_map {α : Type} (g : Nat → List α) (n k : Nat) (hk : k < n) : ((yo n).map g).getD k [] = g k:=by
 rw [yb,List.getElem?_map,List.getElem?_range hk]; rfl
theorem zoh {ops : List POp} {order : List Int} (hl : order.length = ops.length) : zdD ((yo ops.length).map (zi3 ops)) ops.length [] order = true ↔ LegalP ops order:=by
 rw [zkU]
 simp only [yP]
 constructor
 ·intro h
  have hn : order.Nodup:=zkf.2 fun i hi => (h i hi).2.2.1
  have hr : ∀ x ∈ order,0 ≤ x ∧ x < (ops.length : Int):=fun x hx => by
   obtain ⟨i,hi,rfl⟩:=yi.1 hx
   exact ⟨(h i hi).1,(h i hi).2.1⟩
  refine ⟨zjn hl hn hr,fun i k hi hk hik => ?_⟩
  cases c : onB ops order[i].toNat order[k].toNat with
  | false => rfl
  | true =>
    exfalso
    obtain ⟨h1,h2,h3,h4⟩:=h i hi
    rw [getD_map _ _ _ (by omega)] at h4
    have hk0:=(hr order[k] (yp hk)).1
    have hm:=h4 order[k] (zhk.2 ⟨order[k].toNat,by omega,c⟩)
    exact (h k hk).2.2.1 (yH (i:=i) (by rw [yR,yM (by omega)]; exact hm))
 ·intro h i hi
  obtain ⟨h1,h2⟩:=h.range _ (yp hi)
  refine ⟨h1,h2,zkf.1 h.nodup i hi,fun y hy => ?_⟩
  rw [getD_map _ _ _ (by omega)] at hy
  obtain ⟨y1,y2⟩:=zxR hy
  obtain ⟨j,hj,rfl⟩:=yi.1 (h.all y1 (by omega))
  obtain ⟨k,hk1,hk2⟩:=zhk.1 hy
  rcases yJ j i with c | rfl | c
  ·exact yi.2 ⟨j,by simp only [yF]; omega,by rw [yC]⟩
  ·omega
  ·have:=h.ahead i j hi hj c
   rw [← hk1,yz,hk2] at this
   cases this
theorem zwE {b : PBlock} (h1 : OneDef b.ops) (order : List Int) : znY b order = zwF b.ops order:=by
 rw [Bool.eq_iff_iff,znz]
 unfold znY
 rw [ya,decide_eq_true_eq,zsj h1]
 exact ⟨fun ⟨h,k⟩ => (zoh h).1 k,fun h => ⟨h.len,(zoh h.len).2 h⟩⟩
theorem zpk {b : PBlock} (h1 : OneDef b.ops) {order : List Int} : znY b order = true ↔ LegalP b.ops order:=by rw [zwE h1,znz]
def zrf (on : List (List Int)) (out : List Int) (a : Nat) : Bool:=!decide ((a : Int) ∈ out) && (on.getD a []).all fun y => decide (y ∈ out)
structure OutIs (ops : List POp) (out : List Int) : Prop where
 nodup : out.Nodup
 range : ∀ x ∈ out,0 ≤ x ∧ x < (ops.length : Int)
 ahead : ∀ i (hi : i < out.length),∀ y ∈ zi3 ops out[i].toNat,y ∈ out.take i
theorem OutIs.le {ops : List POp} {out : List Int} (h : OutIs ops out) : out.length ≤ ops.length:=zfF h.nodup h.range
theorem zvB {ops : List POp} {out : List Int} {a : Nat} (ha : a < ops.length) : zrf ((yo ops.length).map (zi3 ops)) out a = true ↔ (a : Int) ∉ out ∧ ∀ y ∈ zi3 ops a,y ∈ out:=by
 unfold zrf
 rw [getD_map _ _ _ ha]
 simp
theorem OutIs.step {ops : List POp} {out : List Int} (h : OutIs ops out) {a : Nat} (ha : a < ops.length) (hr : zrf ((yo ops.length).map (zi3 ops)) out a = true) : OutIs ops (out ++ [(a : Int)]):=by
 obtain ⟨h1,h2⟩:=(zvB ha).1 hr
 refine ⟨?_,fun x hx => ?_,fun i hi y hy => ?_⟩
 ·rw [List.nodup_append]
  refine ⟨h.nodup,by simp,fun x hx y hy e => ?_⟩
  rw [yA.1 hy] at e
  exact h1 (e ▸ hx)
 ·rcases yG.1 hx with hx | hx
  ·exact h.range x hx
  ·rw [yA.1 hx]; omega
 ·by_cases c : i < out.length
  ·rw [List.getElem_append_left c] at hy
   have:=h.ahead i c y hy
   rw [List.take_append_of_le_length (by omega)]
   exact this
  ·have e : i = out.length:=by simp at hi; omega
   subst e
   rw [List.getElem_append_right (Nat.le_refl _)] at hy
   simp only [Nat.sub_self,List.getElem_singleton,yz] at hy
   rw [List.take_left]
   exact h2 y hy
theorem OutIs.legal {ops : List POp} {out : List Int} (h : OutIs ops out) (hl : out.length = ops.length) : LegalP ops out:=by
 refine ⟨zjn hl h.nodup h.range,fun i k hi hk hik => ?_⟩
 cases c : onB ops out[i].toNat out[k].toNat with
 | false => rfl
 | true =>
   exfalso
   have hk0:=(h.range _ (yp hk)).1
   have hm:=h.ahead i hi out[k] (zhk.2 ⟨out[k].toNat,by omega,c⟩)
   exact zkf.1 h.nodup k hk (yH (i:=i) (by rw [yR,yM (by omega)]; exact hm))
end AC
namespace AC
open Go Go.A
def zv8 (tree : List Int) (d u : Use) : Prop:=d.block < 0 ∨ (d.block = u.block ∧ d.at' < u.at') ∨ (d.block ≠ u.block ∧ zs0 tree d.block u.block = d.block)
structure RightP (f : PFunc) (level : Int) : Prop where
 lvl : 0 ≤ level ∧ level ≤ 2
 may : zn2 f = true
 shape : zhg f = true
 typed : zeE f level = true
 values : ∀ d ∈ zO f,value d.v = true
 once : ((zO f).map Use.v).Nodup
 uses : ∀ u ∈ zf1 f,∃ d ∈ zO f,d.v = u.v ∧ d.shape = u.shape ∧ zv8 (zjk (zI f) 0) d u
theorem zmD : ∀ (l pre : List Use),zdO pre l = true ↔ (∀ u ∈ l,value u.v = true) ∧ (l.map Use.v).Nodup ∧ ∀ u ∈ l,∀ x ∈ pre,x.v ≠ u.v
 | [],pre => by simp [zdO]
 | u :: r,pre => by
   rw [zdO,ya,ya,zmD r (pre ++ [u]),zj5,yK,yt]
   constructor
   ·rintro ⟨⟨h1,h2⟩,h3,h4,h5⟩
    refine ⟨fun x hx => ?_,⟨fun hm => ?_,h4⟩,fun x hx y hy => ?_⟩
    ·rcases yh.1 hx with rfl | hx
     ·exact h1
     ·exact h3 x hx
    ·obtain ⟨x,hx,e⟩:=ym.1 hm
     exact h5 x hx u (by simp) e.symm
    ·rcases yh.1 hx with rfl | hx
     ·exact h2 y hy
     ·exact h5 x hx y (by simp [hy])
   ·rintro ⟨h1,⟨h2,h3⟩,h4⟩
    refine ⟨⟨h1 u yc,h4 u yc⟩,fun x hx => h1 x (yf _ hx),h3,fun x hx y hy => ?_⟩
    rcases yG.1 hy with hy | hy
    ·exact h4 x (yf _ hx) y hy
    ·rw [yA.1 hy]
     exact fun e => h2 (ym.2 ⟨x,hx,e.symm⟩)
theorem zhy : ∀ {defs : List Use},(defs.map Use.v).Nodup → ∀ {d : Use},d ∈ defs → defs.find? (fun u => decide (u.v = d.v)) = some d
 | [],_,_,hd => by simp at hd
 | x :: r,hn,d,hd => by
   rw [yK,yt] at hn
   rw [List.find?_cons]
   rcases yh.1 hd with rfl | hd
   ·simp
   ·rw [decide_eq_false (fun e => hn.1 (ym.2 ⟨d,hd,e.symm⟩))]
    exact zhy hn.2 hd
theorem zfQ {defs : List Use} (hn : (defs.map Use.v).Nodup) {d : Use} (hd : d ∈ defs) : ¬ zB d.v 0 defs < 0 ∧ zha defs d.v = d:=by
 obtain ⟨h1,h2⟩:=zhv defs d.v 0
 have hf:=zhy hn hd
 have h0 : ¬ zB d.v 0 defs < 0:=fun c => by
  have:=zj5.1 (h1.1 c) d hd
  exact this rfl
 refine ⟨h0,?_⟩
 have:=h2 (by omega)
 rw [show zB d.v 0 defs - ((0 : Nat) : Int) = zB d.v 0 defs by omega,hf] at this
 unfold zha
 rw [yb,this]
 rfl
theorem zvJ {defs : List Use} {v : Int} (h : ¬ zB v 0 defs < 0) : ∃ d ∈ defs,d.v = v:=by
 obtain ⟨h1,_⟩:=zhv defs v 0
 refine Classical.byContradiction fun hc => h (h1.2 (zj5.2 fun u hu e => hc ⟨u,hu,e⟩))
theorem zl8 {defs : List Use} (hn : (defs.map Use.v).Nodup) {d : Use} (hd : d ∈ defs) (tree : List Int) (u : Use) (e : d.v = u.v) : zgV defs tree u = true ↔ zv8 tree d u:=by
 unfold zgV zv8
 rw [← e,(zfQ hn hd).2]
 simp only [ys,ya,decide_eq_true_eq,yu,Bool.or_eq_false_iff,decide_eq_false_iff_not,Bool.not_eq_false',or_assoc]
theorem zqD {f : PFunc} {level : Int} : zdl f level = 0 ↔ RightP f level:=by
 unfold zdl
 constructor
 ·intro h
  split at h
  ·omega
  rename_i c1
  split at h
  ·omega
  rename_i c2
  split at h
  ·omega
  rename_i c3
  split at h
  ·omega
  rename_i c4
  split at h
  ·omega
  rename_i c5
  split at h
  ·omega
  rename_i c6
  split at h
  ·omega
  rename_i c7
  split at h
  ·omega
  rename_i c8
  simp only [Bool.not_eq_false] at c2 c3 c4 c5 c6 c7 c8
  have hs:=(zoX (zO f) (zO f) [] rfl).symm.trans c5
  obtain ⟨v1,v2,_⟩:=(zmD _ _).1 hs
  refine ⟨by omega,c2,c3,c4,v1,v2,fun u hu => ?_⟩
  have h6:=ye.1 c6 u hu
  have h7:=ye.1 c7 u hu
  have h8:=ye.1 c8 u hu
  unfold zng at h6
  simp only [yu,decide_eq_false_iff_not] at h6
  obtain ⟨d,hd,e⟩:=zvJ h6
  refine ⟨d,hd,e,?_,(zl8 v2 hd _ u e).1 h8⟩
  unfold sameShape at h7
  rw [← e,(zfQ v2 hd).2] at h7
  simpa using h7
 ·intro h
  have hs : zfK (zO f) 0 (zO f) = true:=(zoX (zO f) (zO f) [] rfl).trans ((zmD _ _).2 ⟨h.values,h.once,fun _ _ _ hx => by simp at hx⟩)
  have a6 : (zf1 f).all (zng (zO f)) = true:=ye.2 fun u hu => by
   obtain ⟨d,hd,e,_⟩:=h.uses u hu
   unfold zng
   rw [← e]
   simpa using (zfQ h.once hd).1
  have a7 : (zf1 f).all (sameShape (zO f)) = true:=ye.2 fun u hu => by
   obtain ⟨d,hd,e,es,_⟩:=h.uses u hu
   unfold sameShape
   rw [← e,(zfQ h.once hd).2,decide_eq_true_eq]
   exact es
  have a8 : (zf1 f).all (zgV (zO f) (zjk (zI f) 0)) = true:=ye.2 fun u hu => by
   obtain ⟨d,hd,e,_,hp⟩:=h.uses u hu
   exact (zl8 h.once hd _ u e).2 hp
  have hl:=h.lvl
  rw [if_neg (by omega),if_neg (by simp [h.may]),if_neg (by simp [h.shape]),if_neg (by simp [h.typed]),if_neg (by simp [hs]),if_neg (by simp [a6]),if_neg (by simp [a7]),if_neg (by simp [a8])]
theorem zfB {f : PFunc} {level : Int} (h : zeE f level = true) {b : PBlock} (hb : b ∈ f.blocks) {o : POp} (ho : o ∈ b.ops) : zgE o = true:=by
 unfold zeE at h
 simp only [ya,ye] at h
 have:=h.2.2 b hb
 unfold zif at this
 simp only [ya,ye] at this
 have:=this.2 o ho
 unfold ofS at this
 simp only [ya] at this
 exact this.2.2
theorem zlZ {o : POp} (h : zgE o = true) (hd : 0 < o.dst) : 0 < (zY o).1:=by
 unfold zY
 unfold zgE at h
 simp only [ya] at h
 have hm : zgE o = true:=by unfold zgE; simp only [ya]; exact h
 cases c : zii o.kind
 ·rw [if_neg (by simp [hm])]
  split
  ·decide
  ·have hs:=h.1
   unfold zeR at hs
   have hb : 0 < o.bits:=by
    simp only [ya] at hs
    have:=zfx hs.1
    omega
   split <;> exact hb
 ·rw [c] at h
  simp at h
  omega
theorem zn7 : ∀ (l : List PBlock) (k j : Nat) (b : PBlock),l[j]? = some b → (zb2 ((k + j : Nat) : Int) 0 b.ops).Sublist (zJ k l)
 | [],_,_,_,h => by simp at h
 | c :: l,k,j,b,h => by
   rw [zJ]
   cases j with
   | zero =>
     simp only [yD,Option.some.injEq] at h
     subst h
     rw [Nat.add_zero]
     exact (List.sublist_append_left _ _).trans (yj _ _)
   | succ j =>
     have:=zn7 l (k + 1) j b (by simpa using h)
     rw [show k + 1 + j = k + (j + 1) by omega] at this
     exact this.trans ((yj _ _).trans (yj _ _))
theorem zn1 (i : Int) : ∀ (l : List POp) (k j : Nat) (o : POp),l[j]? = some o → 0 < (zY o).1 → ⟨o.dst,zY o,i,((k + j : Nat) : Int)⟩ ∈ zb2 i k l
 | [],_,_,_,h,_ => by simp at h
 | x :: l,k,j,o,h,hg => by
   rw [zb2]
   cases j with
   | zero =>
     simp only [yD,Option.some.injEq] at h
     subst h
     rw [if_pos hg]
     exact yc
   | succ j =>
     have:=zn1 i l (k + 1) j o (by simpa using h) hg
     rw [show k + 1 + j = k + (j + 1) by omega] at this
     split
     ·exact yf _ this
     ·exact this
theorem zkc (i : Int) : ∀ (l : List POp) (k : Nat),((zb2 i k l).map Use.v).Nodup → (∀ o ∈ l,zgE o = true) → ∀ a b (ha : a < l.length) (hb : b < l.length),a < b → 0 < l[a].dst → l[a].dst ≠ l[b].dst
 | [],_,_,_,a,_,ha,_,_,_ => by simp at ha
 | o :: l,k,hn,hm,a,b,ha,hb,hab,hd => by
   cases b with
   | zero => omega
   | succ b =>
     have hbl : b < l.length:=by simpa using hb
     have hmb : zgE l[b] = true:=hm _ (yf _ (yp hbl))
     cases a with
     | zero =>
       simp only [List.getElem_cons_zero,yE] at hd ⊢
       intro e
       rw [zb2,if_pos (zlZ (hm o yc) hd),yK,yt] at hn
       refine hn.1 (ym.2 ⟨_,zn1 i l (k + 1) b l[b] (yd hbl) (zlZ hmb (by omega)),?_⟩)
       exact e.symm
     | succ a =>
       simp only [yE] at hd ⊢
       refine zkc i l (k + 1) ?_ (fun o ho => hm o (yf _ ho)) a b (by simpa using ha) hbl (by omega) hd
       rw [zb2] at hn
       split at hn
       ·exact (yt.1 hn).2
       ·exact hn
theorem zvd {o : POp} (h : zgE o = true) : 0 ≤ o.dst:=by
 unfold zgE at h
 simp only [ya] at h
 have:=h.2.2.1
 split at this
 ·simp at this; omega
 ·have:=zg2.1 this; omega
theorem RightP.oneDef {f : PFunc} {level : Int} (h : RightP f level) {b : PBlock} (hb : b ∈ f.blocks) : OneDef b.ops:=by
 have hm : ∀ o ∈ b.ops,zgE o = true:=fun o ho => zfB h.typed hb ho
 obtain ⟨j,hj,e⟩:=yi.1 hb
 have hs:=zn7 f.blocks 0 j b (by rw [yd hj,e])
 have hn : ((zb2 ((0 + j : Nat) : Int) 0 b.ops).map Use.v).Nodup:=by
  refine List.Nodup.sublist ?_ h.once
  refine List.Sublist.map _ (hs.trans ?_)
  unfold zO
  exact yj _ _
 refine ⟨fun o ho => zvd (hm o ho),fun a c ha hc hd he => ?_⟩
 rcases yJ a c with hac | hac | hac
 ·exact absurd he (zkc _ _ _ hn hm a c ha hc hac hd)
 ·exact hac
 ·exact absurd he.symm (zkc _ _ _ hn hm c a hc ha hac (by omega))
theorem RightP.size {f : PFunc} {level : Int} (h : RightP f level) {b : PBlock} (hb : b ∈ f.blocks) : b.ops.length ≤ 1000 ∧ ∀ o ∈ b.ops,o.args.length ≤ 64:=by
 have hf:=znI h.may
 refine ⟨zlE hf.2.2.2.1 b hb,?_⟩
 exact (ztu (hf.2.2.2.2 b hb)).2
end AC
namespace AC
open Go Go.A Go.A.Lex
def zgg (f : PFunc) (k : Int) : Bool:=decide (0 ≤ k) && (decide (k < f.blocks.length) && decide (zdl f 2 = 0))
theorem zlb (f : PFunc) (hf : okF f) (k : Int) : call T 64 [zgP f,vI k] [] = some (vB (zgg f k),[]):=by
 rw [ze (fn:=zcA) rfl]
 have hc:=ztA f hf 2
 rw [zvj hf] at hc
 simp -implicitDefEqProofs only [go_sem] at hc
 by_cases c1 : 0 ≤ k
 ·by_cases c2 : k < f.blocks.length
  ·by_cases c3 : zdl f 2 = 0
   ·simp -implicitDefEqProofs only [go_sem,zcA,hc,c1,c2,c3,zgg]
   ·simp -implicitDefEqProofs only [go_sem,zcA,hc,c1,c2,c3,zgg]
  ·simp -implicitDefEqProofs only [go_sem,zcA,hc,c1,c2,zgg]
 ·simp -implicitDefEqProofs only [go_sem,zcA,hc,c1,zgg]
theorem zfI {f : PFunc} {k : Int} : zgg f k = true ↔ 0 ≤ k ∧ k < f.blocks.length ∧ RightP f 2:=by
 unfold zgg
 simp only [ya,decide_eq_true_eq,zqD]
abbrev zuH:=List (Int × Bool)
def vBo (b : Bool) : V:=.one (.f (.lit (.bool b)))
theorem zoo (n : Nat) (D : zuH) : C.ltm n (zgu vBo D) = true:=zrQ vBo n (fun a => by simp [vBo,V.lt,C.lt]) D
theorem zyM (k : Int) (D : zuH) : zfj k (zgu vBo D) = (getM k D).map vBo:=zlz vBo k D
theorem zAk (k : Int) (o : Bool) (D : zuH) : zi8 k (V.one (.f (.lit (.bool o)))) (zgu vBo D) = zgu vBo (zh7 k o D):=zlD vBo k o D
def zgR (D : zuH) (k : Int) : Bool:=(getM k D).getD false
theorem zo2 (k : Int) (σ : zb) (m : Nat) (D : zuH) (hm : σ[m]? = some (.mp (zgu vBo D))) (hσ : Ok σ) :
  call T 120 [vI k,.one (.ptr σ.length 0 0 0)] (σ ++ [.cells 0 1 [[.map m]]]) = some (vB (!zgR D k),σ ++ [.cells 0 1 [[.map m]]]):=by
 rw [ze (fn:=zcR) rfl]
 have hg:=zyM k D
 have hlow:=zdw hm
 have hlt:=zeW hm
 have ok:=fun k => Ok.up hσ k
 unfold zgR
 cases e : getM k D with
 | none =>
   rw [e] at hg
   simp -implicitDefEqProofs only [go_sem] at hg
   simp -implicitDefEqProofs only [go_sem,zcR,hlow,hlt,hg,ok,Option.getD_none]
 | some b =>
   rw [e] at hg
   simp -implicitDefEqProofs only [go_sem,vBo] at hg
   simp -implicitDefEqProofs only [go_sem,zcR,hlow,hlt,hg,ok,Option.getD_some]
theorem zrs (σ : zb) (m : Nat) (D : zuH) (hm : σ[m]? = some (.mp (zgu vBo D))) (hσ : Ok σ) (l : List Int) (hl : l.length ≤ 4294967296) :
  call T 69 [.one (.map m),vIs l] σ = some (vB (l.all (zgR D)),σ):=by
 rw [ze (fn:=zfb) rfl]
 have h:=zV l (fun k => !zgR D k) 120 [] [.ptr σ.length 0 0 0] (σ ++ [Ob.cells 0 1 [[.map m]]]) hl (fun x hx => zo2 x σ m D hm hσ)
 have ok:=fun k => Ok.up hσ k
 have ok0:=Ok.at hσ
 have hn:=zj6 (zgR D) l
 simp -implicitDefEqProofs only [go_sem] at h
 simp -implicitDefEqProofs only [go_sem,zfb,h,ok,ok0,hn]
def vIv (k : Int) : V:=.one (.f (.lit (.int .i64 k)))
theorem zAp (k : Int) (D : zmY) : zfj k (zgu vIv D) = (getM k D).map vIv:=zlz vIv k D
theorem zwz (k : Int) (o : Int) (D : zmY) : zi8 k (V.one (.f (.lit (.int .i64 o)))) (zgu vIv D) = zgu vIv (zh7 k o D):=zlD vIv k o D
def zcH (n at' : Nat) (es : List (List C)) (l : List Int) (σ : zb) : zb :=
 (σ.set (1 + at') (.cells l.length 1 (l.map zi))).set (n + 1) (.cells 0 1 (es.set at' [.own (1 + at') l.length 0 l.length]))
theorem zqF (n at' : Nat) (hat : at' < n) (es : List (List C)) (l l' : List Int) (a : List C) (σ : zb) : zcH n at' (es.set at' a) l' (zcH n at' es l σ) = zcH n at' es l' σ:=by
 unfold zcH
 rw [List.set_comm _ _ (show n + 1 ≠ 1 + at' by omega),yN,yN,yN]
structure RInv (n at' : Nat) (D : zmY) (es : List (List C)) (l : List Int) (σ : zb) : Prop where
 len : σ.length ≤ 1000000
 elen : es.length = n
 main : σ[n + 1]? = some (.cells 0 1 es)
 at0 : es[at']? = some [.own (1 + at') l.length 0 l.length]
 row : σ[1 + at']? = some (.cells l.length 1 (l.map zi))
 map : σ[n + 2]? = some (.mp (zgu vIv D))
theorem RInv.step {n at' : Nat} {D : zmY} {es : List (List C)} {l : List Int} {σ : zb} (h : RInv n at' D es l σ) (hat : at' < n) (l' : List Int) :
  RInv n at' D (es.set at' [.own (1 + at') l'.length 0 l'.length]) l' (zcH n at' es l' σ):=by
 have h1 : n + 1 < σ.length:=(yg.1 h.main).1
 have h2 : 1 + at' < σ.length:=(yg.1 h.row).1
 unfold zcH
 refine ⟨by simp only [yQ]; exact h.len,by rw [yQ]; exact h.elen,?_,?_,?_,?_⟩
 ·rw [yr (by simpa using h1)]
 ·rw [yr (by rw [h.elen]; exact hat)]
 ·rw [yl (by omega),yr h2]
 ·rw [yl (by omega),yl (by omega)]
  exact h.map
theorem RInv.same {n at' : Nat} {D : zmY} {es : List (List C)} {l : List Int} {σ : zb} (h : RInv n at' D es l σ) : zcH n at' es l σ = σ:=by
 unfold zcH
 obtain ⟨hl,he⟩:=yg.1 h.at0
 have e1 : es.set at' [.own (1 + at') l.length 0 l.length] = es:=by rw [← he]; exact yv hl
 rw [e1]
 have e2 : σ.set (1 + at') (.cells l.length 1 (l.map zi)) = σ:=by
  obtain ⟨hr,hre⟩:=yg.1 h.row
  rw [← hre]; exact yv hr
 rw [e2]
 obtain ⟨hr,hre⟩:=yg.1 h.main
 rw [← hre]; exact yv hr
section
variable (n at' : Nat) (hn : n ≤ 1000) (hat : at' < n) (D : zmY) (args : List Int) (hargs : args.length ≤ 4294967296) (v5 v7 v11 v12 v13 : V)
include hn hat hargs
theorem zwk : ∀ (d j : Nat) (l : List Int) (es : List (List C)) (σ : zb) (a0 a1 a2 a8 a9 a10 a14 a18 a19 a20 a21 : V),args.length - j = d → j ≤ args.length → l.length + d ≤ 1000000000 → RInv n at' D es l σ →
  exec T zdF ⟨[a0,a1,a2,.one (.own (n + 1) 0 0 n),.one (.map (n + 2)),v5,vI at',v7,a8,a9,a10,v11,v12,v13,a14,vIs args,vI args.length,vI j,a18,a19,a20,a21],σ,0,0⟩ =
   some (.exit 2,⟨[vU,vU,vU,.one (.own (n + 1) 0 0 n),.one (.map (n + 2)),v5,vI at',v7,vU,vU,vU,v11,v12,v13,vU,vU,vU,vU,vU,vU,vU,vU],zcH n at' es (l ++ ze6 D (args.drop j)) σ,0,0⟩):=by
 intro d
 induction d with
 | zero =>
   intro j l es σ a0 a1 a2 a8 a9 a10 a14 a18 a19 a20 a21 h1 h2 h3 hI
   have hj : j = args.length:=by omega
   subst hj
   have hlen:=hI.len
   have hd : (σ.length ≤ 1000000) = True:=eq_true hI.len
   have e : args.drop args.length = []:=by simp
   rw [xl zdF rfl,zfa,e,ze6,List.append_nil,hI.same]
   simp -implicitDefEqProofs only [go_sem,yI,hd]
 | succ d ih =>
   intro j l es σ a0 a1 a2 a8 a9 a10 a14 a18 a19 a20 a21 h1 h2 h3 hI
   have hj : j < args.length:=by omega
   have hdj : args.drop j = args[j] :: args.drop (j + 1):=yy hj
   have hd : (σ.length ≤ 1000000) = True:=eq_true hI.len
   have hm:=hI.map
   have hmain:=hI.main
   have hrow:=hI.row
   have ha:=hI.at0
   have hg:=zAp args[j] D
   have hlk : ((at' : Int) < (n : Int)) = True:=by simp; omega
   have hka : (at' + 1 ≤ n) = True:=by simp; omega
   have hkb : (at' < n) = True:=eq_true hat
   have hel : es.length = n:=hI.elen
   rw [xl zdF rfl,zfa,hdj]
   cases e : getM args[j] D with
   | none =>
     rw [e] at hg
     have:=ih (j + 1) l es σ vU vU vU vU vU vU vU vU vU vU vU (by omega) (by omega) (by omega) hI
     rw [ze6,e]
     simp -implicitDefEqProofs only [go_sem] at hg this
     simp -implicitDefEqProofs only [go_sem,ilt hj,zH hj,ri,hm,hg,hd,zd hj hargs,this]
   | some k =>
     rw [e] at hg
     have hI':=hI.step hat (l ++ [k])
     have:=ih (j + 1) (l ++ [k]) _ _ vU vU vU vU vU vU vU vU vU vU vU (by omega) (by omega) (by simp; omega) hI'
     rw [zqF n at' hat,yB,List.cons_append,yP] at this
     rw [ze6,e]
     have s3 : ∀ (τ : zb) o,(τ.set (1 + at') o)[n + 1]? = τ[n + 1]?:=fun τ o => yl (by omega)
     have hlim : (l.length + 1 ≤ LIM) = True:=eq_true (by unfold LIM; omega)
     have hpos : (0 < l.length + 1) = True:=eq_true (by omega)
     have htk : (l.map zi).take l.length = l.map zi:=List.take_of_length_le (by simp)
     have hc : l.map zi ++ [[C.f (.lit (.int .i64 k))]] = (l ++ [k]).map zi:=by simp [zi]
     have hl1 : (l ++ [k]).length = l.length + 1:=by simp
     have hd2 : ∀ (X Y : Ob),(((σ.set (1 + at') X).set (n + 1) Y).length ≤ 1000000) = True:=fun X Y => eq_true (by simpa using hI.len)
     simp -implicitDefEqProofs only [go_sem,vIv] at hg
     simp -implicitDefEqProofs only [go_sem,zcH,← hc,hl1] at this
     simp -implicitDefEqProofs only [go_sem,zcH,ilt hj,zH hj,ri,hm,hmain,hrow,ha,hg,hd,hd2,hlk,hka,hkb,hel,s3,hlim,hpos,htk,← hc,hl1,Int.natCast_nonneg,yz,zd hj hargs]
     exact this
end
theorem zfZ (l : List Int) (n : Nat) (hn : l.length = n) (hl : n ≤ 4294967296) (σ : zb) (id ver : Nat) (hσ : σ[id]? = some (.cells ver 1 (l.map zi))) :
  call T 118 [.one (.own id ver 0 n)] σ = some (vIs (zq l),σ.set id (.cells (ver + 1) 1 [])):=by
 rw [zhJ (g:=zc9) rfl]
 subst hn
 simp [zc9,hσ,zff,LIM,hl,zbP,zhU,zhY,vsl]
 exact fun _ _ => rfl
structure HG (n k : Nat) (D : zmY) (imp : List Int) (done : List (List Int)) (σ : zb) : Prop where
 len : σ.length ≤ n + 4 + k
 len2 : n + 4 ≤ σ.length
 dlen : done.length = k
 main : ∃ es,σ[n + 1]? = some (.cells 0 1 es) ∧ es.length = n ∧ (∀ i (h : i < done.length),es[i]? = some [.f (.sl (done[i].map ri))]) ∧ ∀ i,k ≤ i → i < n → es[i]? = some [.own (1 + i) 0 0 0]
 rows : ∀ i,k ≤ i → i < n → σ[1 + i]? = some (.cells 0 1 [])
 map : σ[n + 2]? = some (.mp (zgu vIv D))
 tok : σ[n + 3]? = some (.tok 1 [imp.length])
end AC
namespace AC
open Go Go.A Go.A.Lex
theorem zmF (l : List Int) (n : Nat) (hn : l.length = n) (hl : n ≤ 4294967296) (σ : zb) (id ver : Nat) (hσ : σ[id]? = some (.cells ver 1 (l.map zi))) :
  call T 117 [.one (.own id ver 0 n)] σ = some (.tup [],σ.set id (.cells ver 1 ((zbG l).map zi))):=by
 rw [zhJ (g:=ziS) rfl]
 subst hn
 simp [ziS,hσ,zff,LIM,hl,zbP,zhU,zlF]
end AC

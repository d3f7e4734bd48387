/- A part of the proof of SchedDepth. Conditions: none. -/
import Derived.Test.YtmkncmffaaninaaGreatPAJ
import Derived.Test.YtmkncmffaaninaaGreatPAI
import Derived.Test.YtmkncmffaaninaaGreatPAK
import Derived.Test.YtmkncmffaaninaaGreatPAH
import Derived.Test.YtmkncmffaaninaaGreatPAG
import Derived.Test.YtmkncmffaaninaaGreatPAF
import Derived.Sort.Grow
import Derived.Lib.SlicesCompact
import Derived.Shelf.SlIterI.Sorted
import Derived.Shelf.SortM.Plain
import Derived.Shelf.SortM.SortNone
import Derived.Ground.GgzProg
import Derived.Ground.SlgmProg
import Derived.Test.YtmkncmffaaninaaGreatProg
import Derived.Shelf.SlicesG.CompactI
set_option linter.unusedVariables false
set_option linter.unusedSimpArgs false
set_option linter.unusedSectionVars false
open List renaming getElem?_set_ne → ya,getElem?_set_self → yb,length_set → yc,getElem?_eq_some_iff → yd,getD_eq_getElem?_getD → ye,getElem?_eq_getElem → yf,mem_cons_self → yg,mem_cons_of_mem → yh,drop_eq_getElem_cons → yi,length_append → yk,length_cons → yl,getElem_mem → ym,mem_cons → yn,getElem?_map → yo,length_map → yt,all_eq_true → yu,getElem?_append_right → yv,sublist_append_right → yw,pairwise_cons → yx,drop_zero → yy,eq_nil_of_length_eq_zero → yz,getElem?_cons_zero → yA,getElem?_cons_succ → yB,mem_map → yC,set_set → yD,range → yE,append_assoc → yF,getElem_append_left → yI,map_cons → yJ,mem_singleton → yK,take_of_length_le → yL,nodup_cons → yN,foldl_cons → yO,length_singleton → yQ,set_getElem_self → yR,mem_range → yS,mem_iff_getElem → yT,mem_filter → yU,mem_append → yW,getElem_append_right → yX,getElem?_append_left → yY,drop_eq_nil_of_le → y0,getElem_cons_zero → y1,getElem_cons_succ → y2,filter_cons → y3,length_replicate → y5,range_eq_range' → y7,append_nil → y8,nil_append → y9,getElem?_range → yab,replicate → yac,getElem_take → yae,length_take → yag,range_succ → yah,length_nil → yai,take_left → yaj,range' → yas
open Bool renaming and_eq_true → yj,or_eq_true → yM,false_ne_true → yad,not_eq_true' → yaf
open Int renaming toNat_natCast → yp,natCast_nonneg → yq,lt_irrefl → yr,ofNat → yap,le_refl → yaq
open Array renaming getElem?_eq_some_iff → yG,getElem?_append_left → yZ,getElem?_modify → yaa
open Option renaming map_eq_some_iff → yH,bind_eq_some_iff → y6,map_some → yal
open Nat renaming le_refl → yP,lt_succ_iff_lt_or_eq → yV,add_zero → y4,sub_self → yak,le_trans → yam,add_comm → yan,zero_add → yao,mul_one → yar
open Iff renaming rfl → yat
namespace AC
open Go Go.A
abbrev zpG:=List (Int × Int)
def zhx (D : zpG) : List Int → List Int
 | [] => []
 | v :: r => match getM v D with
   | some k => k :: zhx D r
   | none => zhx D r
def zk9 (D : zpG) (imp : List Int) (o : POp) : List Int:=zl (zbX (zhx D o.args ++ if pure o.kind = true then [] else imp))
def zdV (D : zpG) (k : Nat) (o : POp) : zpG:=if 0 < o.dst then zk1 o.dst (k : Int) D else D
def ziU (imp : List Int) (k : Nat) (o : POp) : List Int:=if pure o.kind = true then imp else imp ++ [(k : Int)]
def zdl : Nat → zpG → List Int → List POp → List (List Int)
 | _,_,_,[] => []
 | k,D,imp,o :: r => zk9 D imp o :: zdl (k + 1) (zdV D k o) (ziU imp k o) r
def zfA (b : PBlock) : List (List Int):=zdl 0 [] [] b.ops
theorem zgc : ∀ (ops : List POp) (k : Nat) (D : zpG) (imp : List Int),(zdl k D imp ops).length = ops.length
 | [],_,_,_ => rfl
 | o :: r,k,D,imp => by rw [zdl,yl,zgc r,yl]
theorem zmm (D : zpG) : ∀ l,(zhx D l).length ≤ l.length
 | [] => by simp [zhx]
 | v :: r => by
   rw [zhx]
   have:=zmm D r
   split
   ·simp only [yl]; omega
   ·simp only [yl]; omega
theorem zqG (D : zpG) (k : Int) : ∀ l,k ∈ zhx D l ↔ ∃ v ∈ l,getM v D = some k
 | [] => by simp [zhx]
 | v :: r => by
   rw [zhx]
   have ih:=zqG D k r
   cases e : getM v D with
   | none => simp [ih,e]
   | some j =>
     simp only [yn,ih,exists_eq_or_imp,e,Option.some.injEq]
     exact or_congr ⟨fun h => h.symm,fun h => h.symm⟩ yat
theorem zt3 {α : Type} (k v : Int) (a : α) : ∀ S : List (Int × α),getM v (zk1 k a S) = if k = v then some a else getM v S
 | [] => rfl
 | e :: r => by
   simp only [zk1]
   by_cases c : e.1 = k
   ·rw [if_pos c,getM,getM]
    by_cases d : k = v
    ·rw [if_pos d,if_pos d]
    ·rw [if_neg d,if_neg d,if_neg (fun h => d (c.symm.trans h))]
   ·rw [if_neg c,getM,getM,zt3 k v a r]
    by_cases d : e.1 = v
    ·rw [if_pos d,if_pos d,if_neg (fun h => c (d.trans h.symm))]
    ·rw [if_neg d,if_neg d]
abbrev zEZ (l : List Int) : Prop:=l.Pairwise (· < ·)
theorem ziG (x : Int) : ∀ l,x ∈ zl l ↔ x ∈ l
 | [] => yat
 | [y] => yat
 | y :: z :: r => by
   rw [zl]
   by_cases c : y = z
   ·rw [if_pos c,ziG x (z :: r),c]
    simp
   ·rw [if_neg c,yn,ziG x (z :: r),yn (l:=z :: r)]
theorem zjP : ∀ l : List Int,l.Pairwise (· ≤ ·) → zEZ (zl l)
 | [],_ => List.Pairwise.nil
 | [y],_ => by simp [zl]
 | y :: z :: r,h => by
   rw [zl]
   have ht:=(yx.1 h).2
   by_cases c : y = z
   ·rw [if_pos c]; exact zjP _ ht
   ·rw [if_neg c]
    refine yx.2 ⟨fun x hx => ?_,zjP _ ht⟩
    rw [ziG] at hx
    have h1:=(yx.1 h).1 z yg
    have h2 : z ≤ x:=by
     rcases yn.1 hx with rfl | hx
     ·exact yaq _
     ·exact (yx.1 ht).1 x hx
    omega
theorem zBX (x : Int) (l : List Int) : x ∈ zbX l ↔ x ∈ l:=by
 unfold zbX
 exact (List.mergeSort_perm l _).mem_iff
theorem zCP (l : List Int) : (zbX l).Pairwise (· ≤ ·):=by
 unfold zbX
 refine (List.pairwise_mergeSort (fun a b c h1 h2 => ?_) (fun a b => ?_) l).imp fun h => by simpa using h
 ·simp only [decide_eq_true_eq] at *; omega
 ·simp only [yM,decide_eq_true_eq]; omega
theorem zvF : ∀ {a b : List Int},zEZ a → zEZ b → (∀ x,x ∈ a ↔ x ∈ b) → a = b
 | [],[],_,_,_ => rfl
 | [],y :: b,_,_,h => absurd ((h y).2 yg) (by simp)
 | x :: a,[],_,_,h => absurd ((h x).1 yg) (by simp)
 | x :: a,y :: b,ha,hb,h => by
   obtain ⟨a1,a2⟩:=yx.1 ha
   obtain ⟨b1,b2⟩:=yx.1 hb
   have e : x = y:=by
    rcases yn.1 ((h x).1 yg) with e | hx
    ·exact e
    ·rcases yn.1 ((h y).2 yg) with e | hy
     ·exact e.symm
     ·have:=a1 y hy; have:=b1 x hx; omega
   subst e
   congr 1
   refine zvF a2 b2 fun z => ⟨fun hz => ?_,fun hz => ?_⟩
   ·rcases yn.1 ((h z).1 (yh _ hz)) with rfl | h'
    ·exact absurd (a1 z hz) (yr _)
    ·exact h'
   ·rcases yn.1 ((h z).2 (yh _ hz)) with rfl | h'
    ·exact absurd (b1 z hz) (yr _)
    ·exact h'
def op0 : POp:=⟨0,0,0,0,[],0⟩
def onB (ops : List POp) (a k : Nat) : Bool:=decide (k < a) && ((decide ((ops.getD k op0).dst ≠ 0) && decide ((ops.getD k op0).dst ∈ (ops.getD a op0).args)) || (!pure (ops.getD k op0).kind && !pure (ops.getD a op0).kind))
def zhe (ops : List POp) (a : Nat) : List Int:=((yE a).filter (onB ops a)).map yap
theorem zoS {ops : List POp} {a : Nat} {x : Int} : x ∈ zhe ops a ↔ ∃ k : Nat,(k : Int) = x ∧ onB ops a k = true:=by
 unfold zhe
 rw [yC]
 constructor
 ·rintro ⟨k,hk,rfl⟩
  exact ⟨k,rfl,(yU.1 hk).2⟩
 ·rintro ⟨k,rfl,hk⟩
  refine ⟨k,yU.2 ⟨?_,hk⟩,rfl⟩
  unfold onB at hk
  simp only [yj,decide_eq_true_eq] at hk
  exact yS.2 hk.1
theorem zwQ (ops : List POp) (a : Nat) : zEZ (zhe ops a):=by
 unfold zhe
 refine List.Pairwise.map (R:=(· < ·)) _ (fun x y h => by simpa using h) ?_
 exact List.Pairwise.filter _ List.pairwise_lt_range
structure OneDef (ops : List POp) : Prop where
 pos : ∀ o ∈ ops,0 ≤ o.dst
 one : ∀ i j (hi : i < ops.length) (hj : j < ops.length),0 < ops[i].dst → ops[i].dst = ops[j].dst → i = j
def zA3 (ops : List POp) (k : Nat) (D : zpG) : Prop:=∀ v x,getM v D = some x ↔ ∃ j : Nat,(j : Int) = x ∧ j < k ∧ 0 < v ∧ (ops.getD j op0).dst = v
def zwD (ops : List POp) (k : Nat) : List Int:=((yE k).filter fun j => !pure (ops.getD j op0).kind).map yap
theorem zwL (ops : List POp) (k : Nat) (hk : k < ops.length) : zwD ops (k + 1) = ziU (zwD ops k) k ops[k]:=by
 unfold zwD ziU
 rw [yah,List.filter_append,List.map_append]
 have e : ops.getD k op0 = ops[k]:=by rw [ye,yf hk]; rfl
 cases c : pure ops[k].kind
 ·rw [y3,e,c]; rfl
 ·rw [y3,e,c]; simp
theorem zwd {ops : List POp} (h1 : OneDef ops) {k : Nat} (hk : k < ops.length) {D : zpG} (h : zA3 ops k D) : zA3 ops (k + 1) (zdV D k ops[k]):=by
 have e : ∀ j (hj : j < ops.length),ops.getD j op0 = ops[j]:=fun j hj => by rw [ye,yf hj]; rfl
 intro v x
 unfold zdV
 by_cases c : 0 < ops[k].dst
 ·rw [if_pos c,zt3]
  by_cases d : ops[k].dst = v
  ·rw [if_pos d]
   constructor
   ·intro hx
    exact ⟨k,by simpa using hx,by omega,by omega,by rw [e k hk]; exact d⟩
   ·rintro ⟨j,rfl,hj,hv,hd⟩
    have hjl : j < ops.length:=by omega
    rw [e j hjl] at hd
    have:=h1.one k j hk hjl c (by rw [d,hd])
    rw [this]
  ·rw [if_neg d,h v x]
   constructor
   ·rintro ⟨j,h1,h2,h3,h4⟩
    exact ⟨j,h1,by omega,h3,h4⟩
   ·rintro ⟨j,h1,h2,h3,h4⟩
    refine ⟨j,h1,?_,h3,h4⟩
    rcases yV.1 h2 with h | rfl
    ·exact h
    ·rw [e j hk] at h4; exact absurd h4 d
 ·rw [if_neg c,h v x]
  constructor
  ·rintro ⟨j,h1,h2,h3,h4⟩
   exact ⟨j,h1,by omega,h3,h4⟩
  ·rintro ⟨j,h1,h2,h3,h4⟩
   refine ⟨j,h1,?_,h3,h4⟩
   rcases yV.1 h2 with h | rfl
   ·exact h
   ·rw [e j hk] at h4; omega
theorem zD3 {ops : List POp} (h1 : OneDef ops) {k : Nat} (hk : k < ops.length) {D : zpG} (h : zA3 ops k D) : zk9 D (zwD ops k) ops[k] = zhe ops k:=by
 have e : ∀ j (hj : j < ops.length),ops.getD j op0 = ops[j]:=fun j hj => by rw [ye,yf hj]; rfl
 unfold zk9
 refine zvF (zjP _ (zCP _)) (zwQ _ _) fun x => ?_
 rw [ziG,zBX,yW,zqG,zoS]
 constructor
 ·rintro (⟨v,hv,hx⟩ | hx)
  ·obtain ⟨j,rfl,hj,h0,hd⟩:=(h v x).1 hx
   refine ⟨j,rfl,?_⟩
   unfold onB
   rw [e k hk,hd]
   simp only [yj,yM,decide_eq_true_eq]
   exact ⟨hj,.inl ⟨by omega,hv⟩⟩
  ·split at hx
   ·simp at hx
   ·rename_i c
    unfold zwD at hx
    obtain ⟨j,hj,rfl⟩:=yC.1 hx
    obtain ⟨hj1,hj2⟩:=yU.1 hj
    refine ⟨j,rfl,?_⟩
    unfold onB
    rw [e k hk]
    simp only [yj,yM,decide_eq_true_eq]
    exact ⟨yS.1 hj1,.inr ⟨hj2,by simpa using c⟩⟩
 ·rintro ⟨j,rfl,hj⟩
  unfold onB at hj
  rw [e k hk] at hj
  simp only [yj,yM,decide_eq_true_eq] at hj
  obtain ⟨hjk,hj | hj⟩:=hj
  ·refine .inl ⟨_,hj.2,(h _ _).2 ⟨j,rfl,hjk,?_,rfl⟩⟩
   have h0:=h1.pos ops[j] (ym (by omega))
   have hn:=hj.1
   rw [e j (by omega)] at hn ⊢
   omega
  ·refine .inr ?_
   rw [if_neg (by simpa using hj.2)]
   exact yC.2 ⟨j,yU.2 ⟨yS.2 hjk,hj.1⟩,rfl⟩
theorem zny {ops : List POp} (h1 : OneDef ops) : ∀ (d k : Nat) (D : zpG),ops.length - k = d → k ≤ ops.length → zA3 ops k D → zdl k D (zwD ops k) (ops.drop k) = (yas k d).map (zhe ops)
 | 0,k,D,h2,h3,_ => by
   have : ops.drop k = []:=y0 (by omega)
   rw [this]; rfl
 | d + 1,k,D,h2,h3,h => by
   have hk : k < ops.length:=by omega
   rw [yi hk,zdl,zD3 h1 hk h,← zwL ops k hk,zny h1 d (k + 1) _ (by omega) (by omega) (zwd h1 hk h)]
   rfl
theorem zrg {b : PBlock} (h1 : OneDef b.ops) : zfA b = (yE b.ops.length).map (zhe b.ops):=by
 unfold zfA
 have:=zny h1 b.ops.length 0 [] rfl (Nat.zero_le _) (fun v x => by simp [getM])
 rw [yy] at this
 rw [y7]
 exact this
theorem zrm {ops : List POp} {a : Nat} {x : Int} (h : x ∈ zhe ops a) : 0 ≤ x ∧ x < (a : Int):=by
 obtain ⟨k,rfl,hk⟩:=zoS.1 h
 unfold onB at hk
 simp only [yj,decide_eq_true_eq] at hk
 exact ⟨by omega,by have:=hk.1; omega⟩
end AC
namespace AC
open Go Go.A
def ints (n : Nat) : List Int:=(yE n).map yap
theorem zu7 {n : Nat} {x : Int} : x ∈ ints n ↔ 0 ≤ x ∧ x < (n : Int):=by
 unfold ints
 rw [yC]
 constructor
 ·rintro ⟨k,hk,rfl⟩
  have:=yS.1 hk
  exact ⟨by show (0 : Int) ≤ (k : Int); omega,by show (k : Int) < _; omega⟩
 ·rintro ⟨h1,h2⟩
  exact ⟨x.toNat,yS.2 (by omega),by show (x.toNat : Int) = x; omega⟩
theorem zA4 (n : Nat) : (ints n).length = n:=by simp [ints]
theorem zw9 (n : Nat) : (ints n).Nodup:=by
 unfold ints
 refine List.Pairwise.map (R:=(· ≠ ·)) _ (fun x y h e => h ?_) List.nodup_range
 exact Int.ofNat.inj e
theorem zyn (n : Nat) : ints (n + 1) = ints n ++ [(n : Int)]:=by simp [ints,yah]
theorem zpz : ∀ (n : Nat) (l : List Int),l.length = n → (∀ i : Nat,i < n → (i : Int) ∈ l) → l.Perm (ints n)
 | 0,l,h,_ => by
   rw [yz h]
   exact List.Perm.refl _
 | n + 1,l,h,hm => by
   have hn:=hm n (Nat.lt_succ_self n)
   have p:=List.perm_cons_erase hn
   have hl : (l.erase (n : Int)).length = n:=by rw [List.length_erase_of_mem hn]; omega
   have ih:=zpz n (l.erase (n : Int)) hl fun i hi => (List.mem_erase_of_ne (by omega)).2 (hm i (by omega))
   rw [zyn]
   exact p.trans ((List.Perm.cons _ ih).trans (List.perm_append_singleton _ _).symm)
theorem zrb {n : Nat} {l : List Int} (h : l.length = n) (hd : l.Nodup) (hr : ∀ x ∈ l,0 ≤ x ∧ x < (n : Int)) : l.Perm (ints n):=by
 refine zpz n l h fun i hi => ?_
 refine Classical.byContradiction fun hn => ?_
 have:=zhV (l:=(i : Int) :: l) (n:=n) (yN.2 ⟨hn,hd⟩) fun x hx => by
  rcases yn.1 hx with rfl | hx
  ·exact ⟨by omega,by omega⟩
  ·exact hr x hx
 simp only [yl] at this
 omega
theorem zwp {l : List Int} : l.Nodup ↔ ∀ i (hi : i < l.length),l[i] ∉ l.take i:=by
 constructor
 ·intro h i hi hm
  obtain ⟨j,hj,e⟩:=yT.1 hm
  simp only [yag] at hj
  rw [yae] at e
  have:=(List.getElem_inj (h₀:=by omega) (h₁:=hi) h).1 e
  omega
 ·intro h
  unfold List.Nodup
  rw [List.pairwise_iff_getElem]
  intro i j hi hj hij e
  refine h j hj (yT.2 ⟨i,by simp only [yag]; omega,?_⟩)
  rw [yae]; exact e
structure LegalP (ops : List POp) (order : List Int) : Prop where
 perm : order.Perm (ints ops.length)
 ahead : ∀ i k (hi : i < order.length) (hk : k < order.length),i < k → onB ops order[i].toNat order[k].toNat = false
theorem LegalP.len {ops : List POp} {order : List Int} (h : LegalP ops order) : order.length = ops.length:=by rw [h.perm.length_eq,zA4]
theorem LegalP.nodup {ops : List POp} {order : List Int} (h : LegalP ops order) : order.Nodup:=h.perm.nodup_iff.2 (zw9 _)
theorem LegalP.range {ops : List POp} {order : List Int} (h : LegalP ops order) : ∀ x ∈ order,0 ≤ x ∧ x < (ops.length : Int):=fun x hx => zu7.1 (h.perm.mem_iff.1 hx)
theorem LegalP.all {ops : List POp} {order : List Int} (h : LegalP ops order) {x : Int} (h1 : 0 ≤ x) (h2 : x < (ops.length : Int)) : x ∈ order:=h.perm.mem_iff.2 (zu7.2 ⟨h1,h2⟩)
theorem getD_map {α : Type} (g : Nat → List α) (n k : Nat) (hk : k < n) : ((yE n).map g).getD k [] = g k:=by
 rw [ye,yo,yab hk]; rfl
def zt8 (on : List (List Int)) (out : List Int) (a : Nat) : Bool:=!decide ((a : Int) ∈ out) && (on.getD a []).all fun y => decide (y ∈ out)
structure OutIs (ops : List POp) (out : List Int) : Prop where
 nodup : out.Nodup
 range : ∀ x ∈ out,0 ≤ x ∧ x < (ops.length : Int)
 ahead : ∀ i (hi : i < out.length),∀ y ∈ zhe ops out[i].toNat,y ∈ out.take i
theorem OutIs.le {ops : List POp} {out : List Int} (h : OutIs ops out) : out.length ≤ ops.length:=zhV h.nodup h.range
theorem zxK {ops : List POp} {out : List Int} {a : Nat} (ha : a < ops.length) : zt8 ((yE ops.length).map (zhe ops)) out a = true ↔ (a : Int) ∉ out ∧ ∀ y ∈ zhe ops a,y ∈ out:=by
 unfold zt8
 rw [getD_map _ _ _ ha]
 simp
theorem OutIs.step {ops : List POp} {out : List Int} (h : OutIs ops out) {a : Nat} (ha : a < ops.length) (hr : zt8 ((yE ops.length).map (zhe ops)) out a = true) : OutIs ops (out ++ [(a : Int)]):=by
 obtain ⟨h1,h2⟩:=(zxK ha).1 hr
 refine ⟨?_,fun x hx => ?_,fun i hi y hy => ?_⟩
 ·rw [List.nodup_append]
  refine ⟨h.nodup,by simp,fun x hx y hy e => ?_⟩
  rw [yK.1 hy] at e
  exact h1 (e ▸ hx)
 ·rcases yW.1 hx with hx | hx
  ·exact h.range x hx
  ·rw [yK.1 hx]; omega
 ·by_cases c : i < out.length
  ·rw [yI c] at hy
   have:=h.ahead i c y hy
   rw [List.take_append_of_le_length (by omega)]
   exact this
  ·have e : i = out.length:=by simp at hi; omega
   subst e
   rw [yX (yP _)] at hy
   simp only [yak,List.getElem_singleton,yp] at hy
   rw [yaj]
   exact h2 y hy
theorem OutIs.legal {ops : List POp} {out : List Int} (h : OutIs ops out) (hl : out.length = ops.length) : LegalP ops out:=by
 refine ⟨zrb hl h.nodup h.range,fun i k hi hk hik => ?_⟩
 cases c : onB ops out[i].toNat out[k].toNat with
 | false => rfl
 | true =>
   exfalso
   have hk0:=(h.range _ (ym hk)).1
   have hm:=h.ahead i hi out[k] (zoS.2 ⟨out[k].toNat,by omega,c⟩)
   exact zwp.1 h.nodup k hk (List.mem_of_mem_take (i:=i) (by rw [List.take_take,Nat.min_eq_left (by omega)]; exact hm))
def zaB (out : List Int) (l : List Int) : Int:=l.foldl (fun n k => max n (out.getD k.toNat 0 + 1)) 0
def zdg : List Int → List (List Int) → List Int
 | out,[] => out
 | out,l :: r => zdg (out ++ [zaB out l]) r
def zfz (b : PBlock) : List Int:=zdg [] (zfA b)
theorem zkF : ∀ (r : List (List Int)) (out : List Int),(zdg out r).length = out.length + r.length
 | [],out => rfl
 | l :: r,out => by rw [zdg,zkF r]; simp only [yk,yl,yai]; omega
theorem zoB : ∀ (r : List (List Int)) (out : List Int),∃ t,zdg out r = out ++ t
 | [],out => ⟨[],by simp [zdg]⟩
 | l :: r,out => by
   obtain ⟨t,h⟩:=zoB r (out ++ [zaB out l])
   exact ⟨zaB out l :: t,by rw [zdg,h,yF]; rfl⟩
theorem zme {out out' : List Int} {a : Nat} (h : out = out'.take a) : ∀ (l : List Int) (n : Int),(∀ k ∈ l,0 ≤ k ∧ k < (a : Int)) → l.foldl (fun n k => max n (out.getD k.toNat 0 + 1)) n = l.foldl (fun n k => max n (out'.getD k.toNat 0 + 1)) n
 | [],_,_ => rfl
 | k :: l,n,hk => by
   rw [yO,yO]
   have hk0:=hk k yg
   have e : out.getD k.toNat 0 = out'.getD k.toNat 0:=by
    rw [h,ye,ye,List.getElem?_take_of_lt (by omega)]
   rw [e]
   exact zme h l _ fun x hx => hk x (yh _ hx)
theorem zqs : ∀ (r : List (List Int)) (out : List Int),(∀ i l,r[i]? = some l → ∀ k ∈ l,0 ≤ k ∧ k < ((out.length + i : Nat) : Int)) → ∀ i l,r[i]? = some l → (zdg out r)[out.length + i]? = some (zaB (zdg out r) l)
 | [],_,_,i,l,h => by simp at h
 | l0 :: r,out,hr,i,l,h => by
   rw [zdg]
   cases i with
   | zero =>
     simp only [yA,Option.some.injEq] at h
     subst h
     obtain ⟨t,ht⟩:=zoB r (out ++ [zaB out l0])
     have hk:=hr 0 l0 rfl
     have e : zaB (zdg (out ++ [zaB out l0]) r) l0 = zaB out l0:=by
      have:=zme (out:=out) (out':=zdg (out ++ [zaB out l0]) r) (a:=out.length) (by rw [ht,yF,yaj]) l0 0 (fun k h => by simpa using hk k h)
      exact this.symm
     rw [e,ht,y4,yF,yv (yP _),yak]
     rfl
   | succ i =>
     have ih:=zqs r (out ++ [zaB out l0]) (fun j l' hj k hk => by
      have:=hr (j + 1) l' (by simpa using hj) k hk
      rw [yk,yQ]
      omega) i l (by simpa using h)
     rw [yk,yQ] at ih
     rw [← ih]
     congr 1
     omega
theorem zmV {g : Int → Int} : ∀ (l : List Int) (n : Int),n ≤ l.foldl (fun n k => max n (g k)) n ∧ ∀ k ∈ l,g k ≤ l.foldl (fun n k => max n (g k)) n
 | [],n => ⟨yaq _,fun _ h => by simp at h⟩
 | x :: l,n => by
   obtain ⟨h1,h2⟩:=zmV (g:=g) l (max n (g x))
   rw [yO]
   refine ⟨by omega,fun k hk => ?_⟩
   rcases yn.1 hk with rfl | hk
   ·omega
   ·exact h2 k hk
theorem zqE {g : Int → Int} : ∀ (l : List Int) (n : Int),l.foldl (fun n k => max n (g k)) n = n ∨ ∃ k ∈ l,l.foldl (fun n k => max n (g k)) n = g k
 | [],n => .inl rfl
 | x :: l,n => by
   rw [yO]
   rcases zqE (g:=g) l (max n (g x)) with h | ⟨k,hk,h⟩
   ·rcases Int.le_total n (g x) with c | c
    ·exact .inr ⟨x,yg,by rw [h]; omega⟩
    ·exact .inl (by rw [h]; omega)
   ·exact .inr ⟨k,yh _ hk,h⟩
theorem zBS {b : PBlock} (h1 : OneDef b.ops) {a : Nat} (ha : a < b.ops.length) : (zfz b)[a]? = some (zaB (zfz b) (zhe b.ops a)):=by
 unfold zfz
 rw [zrg h1]
 have:=zqs ((yE b.ops.length).map (zhe b.ops)) [] (fun i l h k hk => by
  rw [yo] at h
  cases c : (yE b.ops.length)[i]? with
  | none => rw [c] at h; cases h
  | some j =>
    rw [c] at h
    have hj : j = i:=by
     have:=(yd.1 c).2
     simpa using this.symm
    simp only [yal,Option.some.injEq] at h
    subst h; subst hj
    simpa using zrm hk) a (zhe b.ops a) (by rw [yo,yab ha]; rfl)
 simpa using this
theorem zzP (b : PBlock) : (zfz b).length = b.ops.length:=by
 unfold zfz zfA
 rw [zkF,zgc]
 simp
end AC
namespace AC
open Go Go.A
def zyo (tree : List Int) (d u : Use) : Prop:=d.block < 0 ∨ (d.block = u.block ∧ d.at' < u.at') ∨ (d.block ≠ u.block ∧ zmf tree d.block u.block = d.block)
structure RightP (f : PFunc) (level : Int) : Prop where
 lvl : 0 ≤ level ∧ level ≤ 2
 may : zlx f = true
 shape : zf5 f = true
 typed : zfm f level = true
 values : ∀ d ∈ zL f,value d.v = true
 once : ((zL f).map Use.v).Nodup
 uses : ∀ u ∈ zeZ f,∃ d ∈ zL f,d.v = u.v ∧ d.shape = u.shape ∧ zyo (zeS (zm f) 0) d u
theorem zoi : ∀ (l pre : List Use),zgh pre l = true ↔ (∀ u ∈ l,value u.v = true) ∧ (l.map Use.v).Nodup ∧ ∀ u ∈ l,∀ x ∈ pre,x.v ≠ u.v
 | [],pre => by simp [zgh]
 | u :: r,pre => by
   rw [zgh,yj,yj,zoi r (pre ++ [u]),zmX,yJ,yN]
   constructor
   ·rintro ⟨⟨h1,h2⟩,h3,h4,h5⟩
    refine ⟨fun x hx => ?_,⟨fun hm => ?_,h4⟩,fun x hx y hy => ?_⟩
    ·rcases yn.1 hx with rfl | hx
     ·exact h1
     ·exact h3 x hx
    ·obtain ⟨x,hx,e⟩:=yC.1 hm
     exact h5 x hx u (by simp) e.symm
    ·rcases yn.1 hx with rfl | hx
     ·exact h2 y hy
     ·exact h5 x hx y (by simp [hy])
   ·rintro ⟨h1,⟨h2,h3⟩,h4⟩
    refine ⟨⟨h1 u yg,h4 u yg⟩,fun x hx => h1 x (yh _ hx),h3,fun x hx y hy => ?_⟩
    rcases yW.1 hy with hy | hy
    ·exact h4 x (yh _ hx) y hy
    ·rw [yK.1 hy]
     exact fun e => h2 (yC.2 ⟨x,hx,e.symm⟩)
theorem zqf : ∀ {defs : List Use},(defs.map Use.v).Nodup → ∀ {d : Use},d ∈ defs → defs.find? (fun u => decide (u.v = d.v)) = some d
 | [],_,_,hd => by simp at hd
 | x :: r,hn,d,hd => by
   rw [yJ,yN] at hn
   rw [List.find?_cons]
   rcases yn.1 hd with rfl | hd
   ·simp
   ·rw [decide_eq_false (fun e => hn.1 (yC.2 ⟨d,hd,e.symm⟩))]
    exact zqf hn.2 hd
theorem ziW {defs : List Use} (hn : (defs.map Use.v).Nodup) {d : Use} (hd : d ∈ defs) : ¬ zh d.v 0 defs < 0 ∧ zhN defs d.v = d:=by
 obtain ⟨h1,h2⟩:=zkb defs d.v 0
 have hf:=zqf hn hd
 have h0 : ¬ zh d.v 0 defs < 0:=fun c => by
  have:=zmX.1 (h1.1 c) d hd
  exact this rfl
 refine ⟨h0,?_⟩
 have:=h2 (by omega)
 rw [show zh d.v 0 defs - ((0 : Nat) : Int) = zh d.v 0 defs by omega,hf] at this
 unfold zhN
 rw [ye,this]
 rfl
theorem zzU {defs : List Use} {v : Int} (h : ¬ zh v 0 defs < 0) : ∃ d ∈ defs,d.v = v:=by
 obtain ⟨h1,_⟩:=zkb defs v 0
 refine Classical.byContradiction fun hc => h (h1.2 (zmX.2 fun u hu e => hc ⟨u,hu,e⟩))
theorem zoP {defs : List Use} (hn : (defs.map Use.v).Nodup) {d : Use} (hd : d ∈ defs) (tree : List Int) (u : Use) (e : d.v = u.v) : zgf defs tree u = true ↔ zyo tree d u:=by
 unfold zgf zyo
 rw [← e,(ziW hn hd).2]
 simp only [yM,yj,decide_eq_true_eq,yaf,Bool.or_eq_false_iff,decide_eq_false_iff_not,Bool.not_eq_false',or_assoc]
theorem znl {f : PFunc} {level : Int} : z6 f level = 0 ↔ RightP f level:=by
 unfold z6
 constructor
 ·intro h
  split at h
  ·omega
  rename_i c1
  split at h
  ·omega
  rename_i c2
  split at h
  ·omega
  rename_i c3
  split at h
  ·omega
  rename_i c4
  split at h
  ·omega
  rename_i c5
  split at h
  ·omega
  rename_i c6
  split at h
  ·omega
  rename_i c7
  split at h
  ·omega
  rename_i c8
  simp only [Bool.not_eq_false] at c2 c3 c4 c5 c6 c7 c8
  have hs:=(zq9 (zL f) (zL f) [] rfl).symm.trans c5
  obtain ⟨v1,v2,_⟩:=(zoi _ _).1 hs
  refine ⟨by omega,c2,c3,c4,v1,v2,fun u hu => ?_⟩
  have h6:=yu.1 c6 u hu
  have h7:=yu.1 c7 u hu
  have h8:=yu.1 c8 u hu
  unfold zjt at h6
  simp only [yaf,decide_eq_false_iff_not] at h6
  obtain ⟨d,hd,e⟩:=zzU h6
  refine ⟨d,hd,e,?_,(zoP v2 hd _ u e).1 h8⟩
  unfold sameShape at h7
  rw [← e,(ziW v2 hd).2] at h7
  simpa using h7
 ·intro h
  have hs : zfs (zL f) 0 (zL f) = true:=(zq9 (zL f) (zL f) [] rfl).trans ((zoi _ _).2 ⟨h.values,h.once,fun _ _ _ hx => by simp at hx⟩)
  have a6 : (zeZ f).all (zjt (zL f)) = true:=yu.2 fun u hu => by
   obtain ⟨d,hd,e,_⟩:=h.uses u hu
   unfold zjt
   rw [← e]
   simpa using (ziW h.once hd).1
  have a7 : (zeZ f).all (sameShape (zL f)) = true:=yu.2 fun u hu => by
   obtain ⟨d,hd,e,es,_⟩:=h.uses u hu
   unfold sameShape
   rw [← e,(ziW h.once hd).2,decide_eq_true_eq]
   exact es
  have a8 : (zeZ f).all (zgf (zL f) (zeS (zm f) 0)) = true:=yu.2 fun u hu => by
   obtain ⟨d,hd,e,_,hp⟩:=h.uses u hu
   exact (zoP h.once hd _ u e).2 hp
  have hl:=h.lvl
  rw [if_neg (by omega),if_neg (by simp [h.may]),if_neg (by simp [h.shape]),if_neg (by simp [h.typed]),if_neg (by simp [hs]),if_neg (by simp [a6]),if_neg (by simp [a7]),if_neg (by simp [a8])]
theorem zxk {f : PFunc} {level : Int} (h : zfm f level = true) {b : PBlock} (hb : b ∈ f.blocks) {o : POp} (ho : o ∈ b.ops) : zgq o = true:=by
 unfold zfm at h
 simp only [yj,yu] at h
 have:=h.2.2 b hb
 unfold zjB at this
 simp only [yj,yu] at this
 have:=this.2 o ho
 unfold ofS at this
 simp only [yj] at this
 exact this.2.2
theorem zss {o : POp} (h : zgq o = true) (hd : 0 < o.dst) : 0 < (zab o).1:=by
 unfold zab
 unfold zgq at h
 simp only [yj] at h
 have hm : zgq o = true:=by unfold zgq; simp only [yj]; exact h
 cases c : zfv o.kind
 ·rw [if_neg (by simp [hm])]
  split
  ·decide
  ·have hs:=h.1
   unfold zeC at hs
   have hb : 0 < o.bits:=by
    simp only [yj] at hs
    have:=zdq hs.1
    omega
   split <;> exact hb
 ·rw [c] at h
  simp at h
  omega
theorem zqj : ∀ (l : List PBlock) (k j : Nat) (b : PBlock),l[j]? = some b → (zcP ((k + j : Nat) : Int) 0 b.ops).Sublist (zW k l)
 | [],_,_,_,h => by simp at h
 | c :: l,k,j,b,h => by
   rw [zW]
   cases j with
   | zero =>
     simp only [yA,Option.some.injEq] at h
     subst h
     rw [y4]
     exact (List.sublist_append_left _ _).trans (yw _ _)
   | succ j =>
     have:=zqj l (k + 1) j b (by simpa using h)
     rw [show k + 1 + j = k + (j + 1) by omega] at this
     exact this.trans ((yw _ _).trans (yw _ _))
theorem zqJ (i : Int) : ∀ (l : List POp) (k j : Nat) (o : POp),l[j]? = some o → 0 < (zab o).1 → ⟨o.dst,zab o,i,((k + j : Nat) : Int)⟩ ∈ zcP i k l
 | [],_,_,_,h,_ => by simp at h
 | x :: l,k,j,o,h,hg => by
   rw [zcP]
   cases j with
   | zero =>
     simp only [yA,Option.some.injEq] at h
     subst h
     rw [if_pos hg]
     exact yg
   | succ j =>
     have:=zqJ i l (k + 1) j o (by simpa using h) hg
     rw [show k + 1 + j = k + (j + 1) by omega] at this
     split
     ·exact yh _ this
     ·exact this
theorem zmA (i : Int) : ∀ (l : List POp) (k : Nat),((zcP i k l).map Use.v).Nodup → (∀ o ∈ l,zgq o = true) → ∀ a b (ha : a < l.length) (hb : b < l.length),a < b → 0 < l[a].dst → l[a].dst ≠ l[b].dst
 | [],_,_,_,a,_,ha,_,_,_ => by simp at ha
 | o :: l,k,hn,hm,a,b,ha,hb,hab,hd => by
   cases b with
   | zero => omega
   | succ b =>
     have hbl : b < l.length:=by simpa using hb
     have hmb : zgq l[b] = true:=hm _ (yh _ (ym hbl))
     cases a with
     | zero =>
       simp only [y1,y2] at hd ⊢
       intro e
       rw [zcP,if_pos (zss (hm o yg) hd),yJ,yN] at hn
       refine hn.1 (yC.2 ⟨_,zqJ i l (k + 1) b l[b] (yf hbl) (zss hmb (by omega)),?_⟩)
       exact e.symm
     | succ a =>
       simp only [y2] at hd ⊢
       refine zmA i l (k + 1) ?_ (fun o ho => hm o (yh _ ho)) a b (by simpa using ha) hbl (by omega) hd
       rw [zcP] at hn
       split at hn
       ·exact (yN.1 hn).2
       ·exact hn
theorem zCI {o : POp} (h : zgq o = true) : 0 ≤ o.dst:=by
 unfold zgq at h
 simp only [yj] at h
 have:=h.2.2.1
 split at this
 ·simp at this; omega
 ·have:=zmb.1 this; omega
theorem RightP.oneDef {f : PFunc} {level : Int} (h : RightP f level) {b : PBlock} (hb : b ∈ f.blocks) : OneDef b.ops:=by
 have hm : ∀ o ∈ b.ops,zgq o = true:=fun o ho => zxk h.typed hb ho
 obtain ⟨j,hj,e⟩:=yT.1 hb
 have hs:=zqj f.blocks 0 j b (by rw [yf hj,e])
 have hn : ((zcP ((0 + j : Nat) : Int) 0 b.ops).map Use.v).Nodup:=by
  refine List.Nodup.sublist ?_ h.once
  refine List.Sublist.map _ (hs.trans ?_)
  unfold zL
  exact yw _ _
 refine ⟨fun o ho => zCI (hm o ho),fun a c ha hc hd he => ?_⟩
 rcases Nat.lt_trichotomy a c with hac | hac | hac
 ·exact absurd he (zmA _ _ _ hn hm a c ha hc hac hd)
 ·exact hac
 ·exact absurd he.symm (zmA _ _ _ hn hm c a hc ha hac (by omega))
theorem RightP.size {f : PFunc} {level : Int} (h : RightP f level) {b : PBlock} (hb : b ∈ f.blocks) : b.ops.length ≤ 1000 ∧ ∀ o ∈ b.ops,o.args.length ≤ 64:=by
 have hf:=zgD h.may
 refine ⟨zoy hf.2.2.2.1 b hb,?_⟩
 exact (zqF (hf.2.2.2.2 b hb)).2
end AC
namespace AC
open Go Go.A Go.A.Lex
def zgn (f : PFunc) (k : Int) : Bool:=decide (0 ≤ k) && (decide (k < f.blocks.length) && decide (z6 f 2 = 0))
theorem zi0 (f : PFunc) (hf : okF f) (k : Int) : call T 64 [zhc f,vI k] [] = some (vB (zgn f k),[]):=by
 rw [ze (fn:=zey) rfl]
 have hc:=zw6 f hf 2
 rw [zzE hf] at hc
 simp -implicitDefEqProofs only [go_sem] at hc
 by_cases c1 : 0 ≤ k
 ·by_cases c2 : k < f.blocks.length
  ·by_cases c3 : z6 f 2 = 0
   ·simp -implicitDefEqProofs only [go_sem,zey,hc,c1,c2,c3,zgn]
   ·simp -implicitDefEqProofs only [go_sem,zey,hc,c1,c2,c3,zgn]
  ·simp -implicitDefEqProofs only [go_sem,zey,hc,c1,c2,zgn]
 ·simp -implicitDefEqProofs only [go_sem,zey,hc,c1,zgn]
theorem zk6 {f : PFunc} {k : Int} : zgn f k = true ↔ 0 ≤ k ∧ k < f.blocks.length ∧ RightP f 2:=by
 unfold zgn
 simp only [yj,decide_eq_true_eq,znl]
abbrev zEU:=List (Int × Bool)
def zvR (D : zEU) (k : Int) : Bool:=(getM k D).getD false
def vIv (k : Int) : V:=.one (.f (.lit (.int .i64 k)))
theorem zD2 (k : Int) (D : zpG) : zif k (zoe vIv D) = (getM k D).map vIv:=zq7 vIv k D
theorem zyf (k : Int) (o : Int) (D : zpG) : zl1 k (V.one (.f (.lit (.int .i64 o)))) (zoe vIv D) = zoe vIv (zk1 k o D):=zrK vIv k o D
def zeD (n at' : Nat) (es : List (List C)) (l : List Int) (σ : zd) : zd :=
 (σ.set (1 + at') (.cells l.length 1 (l.map zj))).set (n + 1) (.cells 0 1 (es.set at' [.own (1 + at') l.length 0 l.length]))
theorem zsE (n at' : Nat) (hat : at' < n) (es : List (List C)) (l l' : List Int) (a : List C) (σ : zd) : zeD n at' (es.set at' a) l' (zeD n at' es l σ) = zeD n at' es l' σ:=by
 unfold zeD
 rw [List.set_comm _ _ (show n + 1 ≠ 1 + at' by omega),yD,yD,yD]
structure RInv (n at' : Nat) (D : zpG) (es : List (List C)) (l : List Int) (σ : zd) : Prop where
 len : σ.length ≤ 1000000
 elen : es.length = n
 main : σ[n + 1]? = some (.cells 0 1 es)
 at0 : es[at']? = some [.own (1 + at') l.length 0 l.length]
 row : σ[1 + at']? = some (.cells l.length 1 (l.map zj))
 map : σ[n + 2]? = some (.mp (zoe vIv D))
theorem RInv.step {n at' : Nat} {D : zpG} {es : List (List C)} {l : List Int} {σ : zd} (h : RInv n at' D es l σ) (hat : at' < n) (l' : List Int) :
  RInv n at' D (es.set at' [.own (1 + at') l'.length 0 l'.length]) l' (zeD n at' es l' σ):=by
 have h1 : n + 1 < σ.length:=(yd.1 h.main).1
 have h2 : 1 + at' < σ.length:=(yd.1 h.row).1
 unfold zeD
 refine ⟨by simp only [yc]; exact h.len,by rw [yc]; exact h.elen,?_,?_,?_,?_⟩
 ·rw [yb (by simpa using h1)]
 ·rw [yb (by rw [h.elen]; exact hat)]
 ·rw [ya (by omega),yb h2]
 ·rw [ya (by omega),ya (by omega)]
  exact h.map
theorem RInv.same {n at' : Nat} {D : zpG} {es : List (List C)} {l : List Int} {σ : zd} (h : RInv n at' D es l σ) : zeD n at' es l σ = σ:=by
 unfold zeD
 obtain ⟨hl,he⟩:=yd.1 h.at0
 have e1 : es.set at' [.own (1 + at') l.length 0 l.length] = es:=by rw [← he]; exact yR hl
 rw [e1]
 have e2 : σ.set (1 + at') (.cells l.length 1 (l.map zj)) = σ:=by
  obtain ⟨hr,hre⟩:=yd.1 h.row
  rw [← hre]; exact yR hr
 rw [e2]
 obtain ⟨hr,hre⟩:=yd.1 h.main
 rw [← hre]; exact yR hr
section
variable (n at' : Nat) (hn : n ≤ 1000) (hat : at' < n) (D : zpG) (args : List Int) (hargs : args.length ≤ 4294967296) (v5 v7 v11 v12 v13 : V)
include hn hat hargs
theorem zzN : ∀ (d j : Nat) (l : List Int) (es : List (List C)) (σ : zd) (a0 a1 a2 a8 a9 a10 a14 a18 a19 a20 a21 : V),args.length - j = d → j ≤ args.length → l.length + d ≤ 1000000000 → RInv n at' D es l σ →
  exec T zfV ⟨[a0,a1,a2,.one (.own (n + 1) 0 0 n),.one (.map (n + 2)),v5,vI at',v7,a8,a9,a10,v11,v12,v13,a14,vIs args,vI args.length,vI j,a18,a19,a20,a21],σ,0,0⟩ =
   some (.exit 2,⟨[vU,vU,vU,.one (.own (n + 1) 0 0 n),.one (.map (n + 2)),v5,vI at',v7,vU,vU,vU,v11,v12,v13,vU,vU,vU,vU,vU,vU,vU,vU],zeD n at' es (l ++ zhx D (args.drop j)) σ,0,0⟩):=by
 intro d
 induction d with
 | zero =>
   intro j l es σ a0 a1 a2 a8 a9 a10 a14 a18 a19 a20 a21 h1 h2 h3 hI
   have hj : j = args.length:=by omega
   subst hj
   have hlen:=hI.len
   have hd : (σ.length ≤ 1000000) = True:=eq_true hI.len
   have e : args.drop args.length = []:=by simp
   rw [xl zfV rfl,zhS,e,zhx,y8,hI.same]
   simp -implicitDefEqProofs only [go_sem,yr,hd]
 | succ d ih =>
   intro j l es σ a0 a1 a2 a8 a9 a10 a14 a18 a19 a20 a21 h1 h2 h3 hI
   have hj : j < args.length:=by omega
   have hdj : args.drop j = args[j] :: args.drop (j + 1):=yi hj
   have hd : (σ.length ≤ 1000000) = True:=eq_true hI.len
   have hm:=hI.map
   have hmain:=hI.main
   have hrow:=hI.row
   have ha:=hI.at0
   have hg:=zD2 args[j] D
   have hlk : ((at' : Int) < (n : Int)) = True:=by simp; omega
   have hka : (at' + 1 ≤ n) = True:=by simp; omega
   have hkb : (at' < n) = True:=eq_true hat
   have hel : es.length = n:=hI.elen
   rw [xl zfV rfl,zhS,hdj]
   cases e : getM args[j] D with
   | none =>
     rw [e] at hg
     have:=ih (j + 1) l es σ vU vU vU vU vU vU vU vU vU vU vU (by omega) (by omega) (by omega) hI
     rw [zhx,e]
     simp -implicitDefEqProofs only [go_sem] at hg this
     simp -implicitDefEqProofs only [go_sem,ilt hj,zp hj,ri,hm,hg,hd,za hj hargs,this]
   | some k =>
     rw [e] at hg
     have hI':=hI.step hat (l ++ [k])
     have:=ih (j + 1) (l ++ [k]) _ _ vU vU vU vU vU vU vU vU vU vU vU (by omega) (by omega) (by simp; omega) hI'
     rw [zsE n at' hat,yF,List.cons_append,y9] at this
     rw [zhx,e]
     have s3 : ∀ (τ : zd) o,(τ.set (1 + at') o)[n + 1]? = τ[n + 1]?:=fun τ o => ya (by omega)
     have hlim : (l.length + 1 ≤ LIM) = True:=eq_true (by unfold LIM; omega)
     have hpos : (0 < l.length + 1) = True:=eq_true (by omega)
     have htk : (l.map zj).take l.length = l.map zj:=yL (by simp)
     have hc : l.map zj ++ [[C.f (.lit (.int .i64 k))]] = (l ++ [k]).map zj:=by simp [zj]
     have hl1 : (l ++ [k]).length = l.length + 1:=by simp
     have hd2 : ∀ (X Y : Ob),(((σ.set (1 + at') X).set (n + 1) Y).length ≤ 1000000) = True:=fun X Y => eq_true (by simpa using hI.len)
     simp -implicitDefEqProofs only [go_sem,vIv] at hg
     simp -implicitDefEqProofs only [go_sem,zeD,← hc,hl1] at this
     simp -implicitDefEqProofs only [go_sem,zeD,ilt hj,zp hj,ri,hm,hmain,hrow,ha,hg,hd,hd2,hlk,hka,hkb,hel,s3,hlim,hpos,htk,← hc,hl1,yq,yp,za hj hargs]
     exact this
end
theorem ziJ (l : List Int) (n : Nat) (hn : l.length = n) (hl : n ≤ 4294967296) (σ : zd) (id ver : Nat) (hσ : σ[id]? = some (.cells ver 1 (l.map zj))) :
  call T 118 [.one (.own id ver 0 n)] σ = some (vIs (zl l),σ.set id (.cells (ver + 1) 1 [])):=by
 rw [zlH (g:=zfl) rfl]
 subst hn
 simp [zfl,hσ,zhO,LIM,hl,zdh,zkq,zkn,vsl]
 exact fun _ _ => rfl
structure HG (n k : Nat) (D : zpG) (imp : List Int) (done : List (List Int)) (σ : zd) : Prop where
 len : σ.length ≤ n + 4 + k
 len2 : n + 4 ≤ σ.length
 dlen : done.length = k
 main : ∃ es,σ[n + 1]? = some (.cells 0 1 es) ∧ es.length = n ∧ (∀ i (h : i < done.length),es[i]? = some [.f (.sl (done[i].map ri))]) ∧ ∀ i,k ≤ i → i < n → es[i]? = some [.own (1 + i) 0 0 0]
 rows : ∀ i,k ≤ i → i < n → σ[1 + i]? = some (.cells 0 1 [])
 map : σ[n + 2]? = some (.mp (zoe vIv D))
 tok : σ[n + 3]? = some (.tok 1 [imp.length])
end AC
namespace AC
open Go Go.A Go.A.Lex
theorem zol (l : List Int) (n : Nat) (hn : l.length = n) (hl : n ≤ 4294967296) (σ : zd) (id ver : Nat) (hσ : σ[id]? = some (.cells ver 1 (l.map zj))) :
  call T 117 [.one (.own id ver 0 n)] σ = some (.tup [],σ.set id (.cells ver 1 ((zbX l).map zj))):=by
 rw [zlH (g:=zlt) rfl]
 subst hn
 simp [zlt,hσ,zhO,LIM,hl,zdh,zkq,zom]
end AC
namespace AC
open Go Go.A Go.A.Lex
theorem zu3 : ∀ l : List Int,znw 1 (l.map ri) = true
 | [] => rfl
 | x :: l => by rw [yJ,znw,zu3 l]; rfl
structure HF (n : Nat) (rows : List (List Int)) (σ : zd) : Prop where
 rlen : rows.length = n
 len2 : n + 4 ≤ σ.length
 main : ∃ es,σ[n + 1]? = some (.cells 0 1 es) ∧ es.length = n ∧ ∀ i (h : i < rows.length),es[i]? = some [.f (.sl (rows[i].map ri))]
theorem HG.step {n k : Nat} {D D' : zpG} {imp imp' : List Int} {done : List (List Int)} {σ τ : zd} (h : HG n k D imp done σ) (hk : k < n) {es : List (List C)} (he : σ[n + 1]? = some (.cells 0 1 es)) (row : List Int)
  (hl : τ.length = σ.length + 1) (h1 : τ[n + 1]? = some (.cells 0 1 (es.set k [.f (.sl (row.map ri))]))) (h2 : ∀ i,k < i → i < n → τ[1 + i]? = σ[1 + i]?) (h3 : τ[n + 2]? = some (.mp (zoe vIv D'))) (h4 : τ[n + 3]? = some (.tok 1 [imp'.length])) :
  HG n (k + 1) D' imp' (done ++ [row]) τ:=by
 obtain ⟨es',e0,e1,e2,e3⟩:=h.main
 rw [he] at e0
 simp only [Option.some.injEq,Ob.cells.injEq] at e0
 obtain ⟨_,_,rfl⟩:=e0
 have hd:=h.dlen
 refine ⟨by have:=h.len; omega,by have:=h.len2; omega,by simp [hd],⟨_,h1,by rw [yc]; exact e1,fun i hi => ?_,fun i i1 i2 => ?_⟩,fun i i1 i2 => ?_,h3,h4⟩
 ·by_cases c : i = k
  ·subst c
   rw [yb (by omega),yX (by omega)]
   simp [hd]
  ·have hi' : i < done.length:=by simp at hi; omega
   rw [ya (by omega),yI hi']
   exact e2 i hi'
 ·rw [ya (by omega)]
  exact e3 i (by omega) i2
 ·rw [h2 i (by omega) i2]
  exact h.rows i (by omega) i2
section
variable (b : PBlock) (hb : okB b) (hs : ∀ o ∈ b.ops,o.args.length ≤ 64) (n : Nat) (hn : n = b.ops.length) (hn2 : n ≤ 1000)
include hb hs hn hn2
set_option maxHeartbeats 4000000 in
theorem zyZ : ∀ (d k : Nat) (D : zpG) (imp : List Int) (done : List (List Int)) (σ : zd) (a0 a1 a2 a6 a7 a8 a9 a10 a14 a15 a16 a17 a18 a19 a20 a21 : V),n - k = d → k ≤ n → imp.length ≤ k → HG n k D imp done σ →
  ∃ σ',HF n (done ++ zdl k D imp (b.ops.drop k)) σ' ∧
  exec T zfR ⟨[a0,a1,a2,.one (.own (n + 1) 0 0 n),.one (.map (n + 2)),.one (.ap (n + 3) 0 (imp.map ri)),a6,a7,a8,a9,a10,vL (b.ops.map ro),vI n,vI k,a14,a15,a16,a17,a18,a19,a20,a21],σ,0,0⟩ =
   some (.exit 0,⟨[vU,vU,vU,.one (.own (n + 1) 0 0 n),vU,vU,vU,vU,vU,vU,vU,vU,vU,vU,vU,vU,vU,vU,vU,vU,vU,vU],σ',0,0⟩):=by
 intro d
 induction d with
 | zero =>
   intro k D imp done σ a0 a1 a2 a6 a7 a8 a9 a10 a14 a15 a16 a17 a18 a19 a20 a21 h1 h2 hi hI
   have hk : k = n:=by omega
   subst hk
   have hlen':=hI.len
   have hd : (σ.length ≤ 1000000) = True:=by simp; omega
   have e : b.ops.drop k = []:=y0 (by omega)
   refine ⟨σ,?_,?_⟩
   ·rw [e,zdl,y8]
    obtain ⟨es,e0,e1,e2,_⟩:=hI.main
    exact ⟨hI.dlen,hI.len2,es,e0,e1,e2⟩
   ·rw [xl zfR rfl,zhC]
    simp -implicitDefEqProofs only [go_sem,yr,hd]
 | succ d ih =>
   intro k D imp done σ a0 a1 a2 a6 a7 a8 a9 a10 a14 a15 a16 a17 a18 a19 a20 a21 h1 h2 hi hI
   have hk : k < b.ops.length:=by omega
   have hkn : k < n:=by omega
   have hdk : b.ops.drop k = b.ops[k] :: b.ops.drop (k + 1):=yi hk
   obtain ⟨es,hm1,hm2,hm3,hm4⟩:=hI.main
   have hmap:=hI.map
   have htok:=hI.tok
   have hr:=hI.rows k (yP _) hkn
   have hlen:=hI.len2
   have hlen':=hI.len
   have ha:=hs _ (ym hk)
   have hR : RInv n k D es [] (σ ++ [.cells 0 6 [cOp b.ops[k]]]):=⟨by simp; omega,hm2,zgd hm1 _,hm4 k (yP _) hkn,zgd hr _,zgd hmap _⟩
   have hA:=fun a0 a1 a2 a8 a9 a10 a14 a18 a19 a20 a21 => zzN n k (by omega) hkn D b.ops[k].args (by omega) (.one (.ap (n + 3) 0 (imp.map ri))) (.one (.ptr σ.length 0 0 0)) (vL (b.ops.map ro)) (vI n) (vI k) b.ops[k].args.length 0 [] es _ a0 a1 a2 a8 a9 a10 a14 a18 a19 a20 a21 (by omega) (by omega) (by simp; omega) hR
   rw [yy,y9] at hA
   obtain ⟨l,hl⟩ : ∃ l,l = zhx D b.ops[k].args:=⟨_,rfl⟩
   rw [← hl] at hA
   have hll : l.length ≤ 64:=by rw [hl]; exact yam (zmm D _) ha
   have lenτ : (zeD n k es l (σ ++ [.cells 0 6 [cOp b.ops[k]]])).length = σ.length + 1:=by simp [zeD]
   have t1 : (zeD n k es l (σ ++ [.cells 0 6 [cOp b.ops[k]]]))[n + 1]? = some (.cells 0 1 (es.set k [.own (1 + k) l.length 0 l.length])):=by
    unfold zeD; rw [yb (by simp; omega)]
   have t2 : (zeD n k es l (σ ++ [.cells 0 6 [cOp b.ops[k]]]))[1 + k]? = some (.cells l.length 1 (l.map zj)):=by
    unfold zeD; rw [ya (by omega),yb (by simp; omega)]
   have t0 : ∀ j,j ≠ n + 1 → j ≠ 1 + k → (zeD n k es l (σ ++ [.cells 0 6 [cOp b.ops[k]]]))[j]? = (σ ++ [.cells 0 6 [cOp b.ops[k]]])[j]?:=fun j j1 j2 => by
    unfold zeD; rw [ya (fun h => j1 h.symm),ya (fun h => j2 h.symm)]
   have t3:=(t0 (n + 2) (by omega) (by omega)).trans (zgd hmap _)
   have t4:=(t0 (n + 3) (by omega) (by omega)).trans (zgd htok _)
   have t5 : (zeD n k es l (σ ++ [.cells 0 6 [cOp b.ops[k]]]))[σ.length]? = some (.cells 0 6 [cOp b.ops[k]]):=by rw [t0 _ (by omega) (by omega)]; simp
   have t6 : ∀ i,k < i → i < n → (zeD n k es l (σ ++ [.cells 0 6 [cOp b.ops[k]]]))[1 + i]? = σ[1 + i]?:=fun i i1 i2 => by
    rw [t0 _ (by omega) (by omega),yY (by omega)]
   clear t0
   generalize zeD n k es l (σ ++ [.cells 0 6 [cOp b.ops[k]]]) = τ at *
   have hp:=zpI b.ops[k].kind
   have hk2 : ((k : Int) < (n : Int)) = True:=by simp; omega
   have hk3 : (k < n) = True:=eq_true hkn
   have hka : (k + 1 ≤ n) = True:=by simp; omega
   have hd1 : (σ.length + 1 ≤ 1000000) = True:=by simp; omega
   have hew : (es.set k [.own (1 + k) l.length 0 l.length])[k]? = some [C.own (1 + k) l.length 0 l.length]:=yb (by omega)
   have hesl : (es.set k [.own (1 + k) l.length 0 l.length]).length = n:=by rw [yc]; exact hm2
   have u12 : ∀ (ρ : zd) o,(ρ.set (1 + k) o)[n + 1]? = ρ[n + 1]?:=fun ρ o => ya (by omega)
   have u13 : ∀ (ρ : zd) o,(ρ.set (1 + k) o)[n + 2]? = ρ[n + 2]?:=fun ρ o => ya (by omega)
   have u14 : ∀ (ρ : zd) o,(ρ.set (1 + k) o)[n + 3]? = ρ[n + 3]?:=fun ρ o => ya (by omega)
   have u15 : ∀ (ρ : zd) o,(ρ.set (1 + k) o)[σ.length]? = ρ[σ.length]?:=fun ρ o => ya (by omega)
   have u21 : ∀ (ρ : zd) o,(ρ.set (n + 1) o)[1 + k]? = ρ[1 + k]?:=fun ρ o => ya (by omega)
   have u23 : ∀ (ρ : zd) o,(ρ.set (n + 1) o)[n + 2]? = ρ[n + 2]?:=fun ρ o => ya (by omega)
   have u24 : ∀ (ρ : zd) o,(ρ.set (n + 1) o)[n + 3]? = ρ[n + 3]?:=fun ρ o => ya (by omega)
   have u25 : ∀ (ρ : zd) o,(ρ.set (n + 1) o)[σ.length]? = ρ[σ.length]?:=fun ρ o => ya (by omega)
   have u31 : ∀ (ρ : zd) o,(ρ.set (n + 2) o)[1 + k]? = ρ[1 + k]?:=fun ρ o => ya (by omega)
   have u32 : ∀ (ρ : zd) o,(ρ.set (n + 2) o)[n + 1]? = ρ[n + 1]?:=fun ρ o => ya (by omega)
   have u34 : ∀ (ρ : zd) o,(ρ.set (n + 2) o)[n + 3]? = ρ[n + 3]?:=fun ρ o => ya (by omega)
   have u41 : ∀ (ρ : zd) o,(ρ.set (n + 3) o)[1 + k]? = ρ[1 + k]?:=fun ρ o => ya (by omega)
   have u42 : ∀ (ρ : zd) o,(ρ.set (n + 3) o)[n + 1]? = ρ[n + 1]?:=fun ρ o => ya (by omega)
   have u43 : ∀ (ρ : zd) o,(ρ.set (n + 3) o)[n + 2]? = ρ[n + 2]?:=fun ρ o => ya (by omega)
   have u45 : ∀ (ρ : zd) o,(ρ.set (n + 3) o)[σ.length]? = ρ[σ.length]?:=fun ρ o => ya (by omega)
   have us : ∀ (ρ : zd) o j,(j < ρ.length) → (ρ.set j o)[j]? = some o:=fun ρ o j h => by simp [h]
   have l1 : (1 + k < σ.length + 1) = True:=by simp; omega
   have l2 : (n + 1 < σ.length + 1) = True:=by simp; omega
   have l3 : (n + 2 < σ.length + 1) = True:=by simp; omega
   have l4 : (n + 3 < σ.length + 1) = True:=by simp; omega
   have hw:=za hk hb.ops
   have fin:=fun (D' : zpG) (imp' row : List Int) (τ' : zd) (hi' : imp'.length ≤ k + 1) (h : HG n (k + 1) D' imp' (done ++ [row]) τ') => ih (k + 1) D' imp' (done ++ [row]) τ' vU vU vU vU vU vU vU vU vU vU vU vU vU vU vU vU (by omega) (by omega) hi' h
   have eqd : ∀ X,done ++ X :: zdl (k + 1) (zdV D k b.ops[k]) (ziU imp k b.ops[k]) (b.ops.drop (k + 1)) = done ++ [X] ++ zdl (k + 1) (zdV D k b.ops[k]) (ziU imp k b.ops[k]) (b.ops.drop (k + 1)):=fun X => by rw [yF]; rfl
   rw [hdk,zdl,eqd,xl zfR rfl,zhC]
   cases e1 : pure b.ops[k].kind with
   | true =>
     rw [e1] at hp
     have er : zk9 D imp b.ops[k] = zl (zbX l):=by unfold zk9; rw [if_pos e1,y8,hl]
     have ei : ziU imp k b.ops[k] = imp:=by unfold ziU; rw [if_pos e1]
     have hew2:=hew
     have hS:=fun ρ h => zol l l.length rfl (by omega) ρ (1 + k) l.length h
     have hC:=fun ρ h => ziJ (zbX l) l.length (by simp [zbX]) (by omega) ρ (1 + k) l.length h
     rw [er,ei]
     by_cases e2 : 0 < b.ops[k].dst
     ·have ed : zdV D k b.ops[k] = zk1 b.ops[k].dst (k : Int) D:=by unfold zdV; rw [if_pos e2]
      have hpm:=zyf b.ops[k].dst (k : Int) D
      rw [ed]
      have fin':=fun (τ' : zd) => fin (zk1 b.ops[k].dst (k : Int) D) (imp) (zl (zbX l)) τ' (by omega)
      simp -implicitDefEqProofs only [go_sem] at hp hA hS hC hpm fin'
      simp -implicitDefEqProofs only [go_sem,hk2,hk3,ilt hk,zp hk,ro,hp,hA,e2,hpm,t1,t2,t3,t4,t5,u12,u13,u14,u15,u21,u23,u24,u25,u31,u32,u34,u41,u42,u43,u45,us,l1,l2,l3,l4,lenτ,hew,hew2,hesl,hka,hd1,hS,hC,yq,yp,hw,yc,yk,yt]
      refine fin' _ (hI.step hkn hm1 _ ?_ ?_ ?_ ?_ ?_)
      ·first | exact lenτ | (simp only [yc]; exact lenτ)
      ·rw [yb (by first | omega | (simp only [yc]; omega))]
       try simp only [yD]
      ·intro i i1 i2
       have:=t6 i i1 i2
       repeat rw [ya (by omega)]
       exact this
      ·repeat rw [ya (by omega)]
       exact yb (by first | omega | (simp only [yc]; omega))
      ·repeat rw [ya (by omega)]
       exact t4
     ·have ed : zdV D k b.ops[k] = D:=by unfold zdV; rw [if_neg e2]
      rw [ed]
      have fin':=fun (τ' : zd) => fin (D) (imp) (zl (zbX l)) τ' (by omega)
      simp -implicitDefEqProofs only [go_sem] at hp hA hS hC fin'
      simp -implicitDefEqProofs only [go_sem,hk2,hk3,ilt hk,zp hk,ro,hp,hA,e2,t1,t2,t3,t4,t5,u12,u13,u14,u15,u21,u23,u24,u25,u31,u32,u34,u41,u42,u43,u45,us,l1,l2,l3,l4,lenτ,hew,hew2,hesl,hka,hd1,hS,hC,yq,yp,hw,yc,yk,yt]
      refine fin' _ (hI.step hkn hm1 _ ?_ ?_ ?_ ?_ ?_)
      ·first | exact lenτ | (simp only [yc]; exact lenτ)
      ·rw [yb (by first | omega | (simp only [yc]; omega))]
       try simp only [yD]
      ·intro i i1 i2
       have:=t6 i i1 i2
       repeat rw [ya (by omega)]
       exact this
      ·repeat rw [ya (by omega)]
       exact t3
      ·repeat rw [ya (by omega)]
       exact t4
   | false =>
     rw [e1] at hp
     have e1' : ¬ pure b.ops[k].kind = true:=by rw [e1]; simp
     have er : zk9 D imp b.ops[k] = zl (zbX (l ++ imp)):=by unfold zk9; rw [if_neg e1',hl]
     have ei : ziU imp k b.ops[k] = imp ++ [(k : Int)]:=by unfold ziU; rw [if_neg e1']
     have hok : znw 1 (imp.map ri) = true:=zu3 imp
     have hil : (imp.length + 1 ≤ LIM) = True:=eq_true (by unfold LIM; omega)
     have himp : imp.map ri ++ [[Fz.lit (Value.int IntKind.i64 (k : Int))]] = (imp ++ [(k : Int)]).map ri:=by simp [ri]
     rw [er,ei]
     by_cases ez : l.length + imp.length = 0
     ·have z1 : l = []:=yz (by omega)
      have z2 : imp = []:=yz (by omega)
      subst z1 z2
      have hew2 : (es.set k [.own (1 + k) 0 0 0])[k]? = some [C.own (1 + k) 0 0 0]:=yb (by omega)
      have hew3 : ((es.set k [.own (1 + k) 0 0 0]).set k [.own (1 + k) 0 0 0])[k]? = some [C.own (1 + k) 0 0 0]:=yb (by rw [yc]; omega)
      have hesl0 : (es.set k [.own (1 + k) 0 0 0]).length = n:=by rw [yc]; exact hm2
      have hrl : (ri (k : Int)).length = 1:=rfl
      have hil0 : (1 ≤ LIM) = True:=eq_true (by unfold LIM; omega)
      have hil1 : (0 + 1 ≤ LIM) = True:=eq_true (by unfold LIM; omega)
      have hS:=fun ρ h => zol [] 0 rfl (by omega) ρ (1 + k) 0 h
      have hC:=fun ρ h => ziJ (zbX []) 0 (by simp [zbX]) (by omega) ρ (1 + k) 0 h
      by_cases e2 : 0 < b.ops[k].dst
      ·have ed : zdV D k b.ops[k] = zk1 b.ops[k].dst (k : Int) D:=by unfold zdV; rw [if_pos e2]
       have hpm:=zyf b.ops[k].dst (k : Int) D
       rw [ed]
       have fin':=fun (τ' : zd) => fin (zk1 b.ops[k].dst (k : Int) D) ([] ++ [(k : Int)]) (zl (zbX ([] ++ []))) τ' (by simp)
       simp -implicitDefEqProofs only [go_sem] at hp hA hS hC hpm fin' himp
       simp -implicitDefEqProofs only [go_sem,hk2,hk3,ilt hk,zp hk,ro,hp,hA,hil,hil0,hil1,himp,hew3,hesl0,hrl,false_and,if_false,e2,hpm,t1,t2,t3,t4,t5,u12,u13,u14,u15,u21,u23,u24,u25,u31,u32,u34,u41,u42,u43,u45,us,l1,l2,l3,l4,lenτ,hew,hew2,hesl,hka,hd1,hS,hC,yq,yp,hw,yc,yk,yt]
       refine fin' _ (hI.step hkn hm1 _ ?_ ?_ ?_ ?_ ?_)
       ·first | exact lenτ | (simp only [yc]; exact lenτ)
       ·rw [yb (by first | omega | (simp only [yc]; omega))]
        try simp only [yD]
       ·intro i i1 i2
        have:=t6 i i1 i2
        repeat rw [ya (by omega)]
        exact this
       ·repeat rw [ya (by omega)]
        exact yb (by first | omega | (simp only [yc]; omega))
       ·repeat rw [ya (by omega)]
        rw [yb (by first | omega | (simp only [yc]; omega))]
        try simp
      ·have ed : zdV D k b.ops[k] = D:=by unfold zdV; rw [if_neg e2]
       rw [ed]
       have fin':=fun (τ' : zd) => fin (D) ([] ++ [(k : Int)]) (zl (zbX ([] ++ []))) τ' (by simp)
       simp -implicitDefEqProofs only [go_sem] at hp hA hS hC fin' himp
       simp -implicitDefEqProofs only [go_sem,hk2,hk3,ilt hk,zp hk,ro,hp,hA,hil,hil0,hil1,himp,hew3,hesl0,hrl,false_and,if_false,e2,t1,t2,t3,t4,t5,u12,u13,u14,u15,u21,u23,u24,u25,u31,u32,u34,u41,u42,u43,u45,us,l1,l2,l3,l4,lenτ,hew,hew2,hesl,hka,hd1,hS,hC,yq,yp,hw,yc,yk,yt]
       refine fin' _ (hI.step hkn hm1 _ ?_ ?_ ?_ ?_ ?_)
       ·first | exact lenτ | (simp only [yc]; exact lenτ)
       ·rw [yb (by first | omega | (simp only [yc]; omega))]
        try simp only [yD]
       ·intro i i1 i2
        have:=t6 i i1 i2
        repeat rw [ya (by omega)]
        exact this
       ·repeat rw [ya (by omega)]
        exact t3
       ·repeat rw [ya (by omega)]
        rw [yb (by first | omega | (simp only [yc]; omega))]
        try simp
     ·have hpos : (0 < l.length + imp.length) = True:=eq_true (by omega)
      have hlm : (l.length + imp.length ≤ LIM) = True:=eq_true (by unfold LIM; omega)
      have htk : (l.map zj).take l.length = l.map zj:=yL (by simp)
      have hcc : l.map zj ++ (imp.map ri).map (fun e => e.map C.f) = (l ++ imp).map zj:=by simp [zj,ri,Function.comp_def]
      have hew2 : ((es.set k [.own (1 + k) l.length 0 l.length]).set k [.own (1 + k) (l.length + 1) 0 (l.length + imp.length)])[k]? = some [C.own (1 + k) (l.length + 1) 0 (l.length + imp.length)]:=yb (by rw [yc]; omega)
      have hS:=fun ρ h => zol (l ++ imp) (l.length + imp.length) (by simp) (by omega) ρ (1 + k) (l.length + 1) h
      have hC:=fun ρ h => ziJ (zbX (l ++ imp)) (l.length + imp.length) (by simp [zbX]) (by omega) ρ (1 + k) (l.length + 1) h
      by_cases e2 : 0 < b.ops[k].dst
      ·have ed : zdV D k b.ops[k] = zk1 b.ops[k].dst (k : Int) D:=by unfold zdV; rw [if_pos e2]
       have hpm:=zyf b.ops[k].dst (k : Int) D
       rw [ed]
       have fin':=fun (τ' : zd) => fin (zk1 b.ops[k].dst (k : Int) D) (imp ++ [(k : Int)]) (zl (zbX (l ++ imp))) τ' (by simp; omega)
       simp -implicitDefEqProofs only [go_sem] at hp hA hS hC hpm fin' himp
       simp -implicitDefEqProofs only [go_sem,hk2,hk3,ilt hk,zp hk,ro,hp,hA,hil,himp,hok,hpos,hlm,htk,hcc,e2,hpm,t1,t2,t3,t4,t5,u12,u13,u14,u15,u21,u23,u24,u25,u31,u32,u34,u41,u42,u43,u45,us,l1,l2,l3,l4,lenτ,hew,hew2,hesl,hka,hd1,hS,hC,yq,yp,hw,yc,yk,yt]
       refine fin' _ (hI.step hkn hm1 _ ?_ ?_ ?_ ?_ ?_)
       ·first | exact lenτ | (simp only [yc]; exact lenτ)
       ·rw [yb (by first | omega | (simp only [yc]; omega))]
        try simp only [yD]
       ·intro i i1 i2
        have:=t6 i i1 i2
        repeat rw [ya (by omega)]
        exact this
       ·repeat rw [ya (by omega)]
        exact yb (by first | omega | (simp only [yc]; omega))
       ·repeat rw [ya (by omega)]
        rw [yb (by first | omega | (simp only [yc]; omega))]
        try simp
      ·have ed : zdV D k b.ops[k] = D:=by unfold zdV; rw [if_neg e2]
       rw [ed]
       have fin':=fun (τ' : zd) => fin (D) (imp ++ [(k : Int)]) (zl (zbX (l ++ imp))) τ' (by simp; omega)
       simp -implicitDefEqProofs only [go_sem] at hp hA hS hC fin' himp
       simp -implicitDefEqProofs only [go_sem,hk2,hk3,ilt hk,zp hk,ro,hp,hA,hil,himp,hok,hpos,hlm,htk,hcc,e2,t1,t2,t3,t4,t5,u12,u13,u14,u15,u21,u23,u24,u25,u31,u32,u34,u41,u42,u43,u45,us,l1,l2,l3,l4,lenτ,hew,hew2,hesl,hka,hd1,hS,hC,yq,yp,hw,yc,yk,yt]
       refine fin' _ (hI.step hkn hm1 _ ?_ ?_ ?_ ?_ ?_)
       ·first | exact lenτ | (simp only [yc]; exact lenτ)
       ·rw [yb (by first | omega | (simp only [yc]; omega))]
        try simp only [yD]
       ·intro i i1 i2
        have:=t6 i i1 i2
        repeat rw [ya (by omega)]
        exact this
       ·repeat rw [ya (by omega)]
        exact t3
       ·repeat rw [ya (by omega)]
        rw [yb (by first | omega | (simp only [yc]; omega))]
        try simp
end
end AC
namespace AC
open Go Go.A Go.A.Lex
theorem zvk : ∀ (rows : List (List Int)) (es : List (List C)),es.length = rows.length → (∀ i (h : i < rows.length),es[i]? = some [.f (.sl (rows[i].map ri))]) → zaq es = some (rows.map rl)
 | [],[],_,_ => rfl
 | [],_ :: _,h,_ => by simp at h
 | _ :: _,[],h,_ => by simp at h
 | l :: rows,e :: es,h,hi => by
   have h0:=hi 0 (by simp)
   simp only [yA,Option.some.injEq,y1] at h0
   have ih:=zvk rows es (by simpa using h) fun i hl => by have:=hi (i + 1) (by simpa using hl); simpa using this
   subst h0
   simp [zaq,ih,zdo,zui,zfO,rl]
section
variable (b : PBlock) (hb : okB b) (hs : ∀ o ∈ b.ops,o.args.length ≤ 64) (n : Nat) (hn : n = b.ops.length) (hn2 : n ≤ 1000)
include hb hs hn hn2
theorem zqN : call T 67 [zpD b] [] = some (vLs (zfA b),[]):=by
 rw [ze (fn:=ziu) rfl]
 have hlim : ((n : Int) ≤ (LIM : Int)) = True:=by simp; unfold LIM; omega
 have hln : (b.ops.length : Int) = n:=by rw [hn]
 have a1 : 1 + n = n + 1:=yan 1 n
 have a2 : n + 1 + 1 = n + 2:=rfl
 have a3 : n + 2 + 1 = n + 3:=rfl
 have h0 : HG n 0 [] [] [] (Ob.cells 0 5 [zq b] :: (yac n (Ob.cells 0 1 []) ++ [Ob.cells 0 1 (List.map (zpQ 1 [C.f (Fz.sl [])] 0) (yE n)),Ob.mp [],Ob.tok 1 [0]])):=by
  refine ⟨by simp,by simp,rfl,⟨List.map (zpQ 1 [C.f (Fz.sl [])] 0) (yE n),?_,by simp,fun i hi => by simp at hi,fun i _ hi => ?_⟩,fun i _ hi => ?_,?_,?_⟩
  ·rw [yB,yv (by simp)]
   simp
  ·simp [hi,zpQ]
  ·rw [yan,yB,yY (by rw [y5]; exact hi),List.getElem?_replicate,if_pos hi]
  ·rw [yB,yv (by simp)]
   simp [zoe]
  ·rw [yB,yv (by simp)]
   simp
 have he:=fun a0 a1 a2 a6 a7 a8 a9 a10 a14 a15 a16 a17 a18 a19 a20 a21 => zyZ b hb hs n hn hn2 n 0 [] [] [] _ a0 a1 a2 a6 a7 a8 a9 a10 a14 a15 a16 a17 a18 a19 a20 a21 (by omega) (by omega) (by simp) h0
 simp only [Int.natCast_zero] at he
 obtain ⟨σ',hI,h⟩:=he (zpD b) (.one (.ptr 0 0 0 0)) (vL []) vU vU vU vU vU vU vU vU vU vU vU vU vU
 rw [y9,yy] at hI
 have eS : zdl 0 [] [] b.ops = zfA b:=rfl
 rw [eS] at hI
 obtain ⟨es,hm1,hm2,hm3⟩:=hI.main
 have hrl:=hI.rlen
 have hf:=zvk (zfA b) es (by omega) hm3
 have ht : es.take n = es:=yL (by omega)
 have hd : es.drop 0 = es:=rfl
 have hlen2:=hI.len2
 have hps : (σ'.length ≤ 0) = False:=eq_false (by omega)
 simp -implicitDefEqProofs only [go_sem] at h
 simp -implicitDefEqProofs only [go_sem,ziu,hln,hlim,yq,yp,yk,y5,yl,yai,a1,a2,a3,h,hm1,hf,ht,hd,hps]
end
end AC
namespace AC
open Go Go.A Go.A.Lex
def zun (D : zEU) (done : List Int) : Prop:=∀ x,zvR D x = decide (x ∈ done)
theorem zun.nil : zun [] []:=fun x => by simp [zvR,getM]
theorem zun.put {D : zEU} {done : List Int} (h : zun D done) (x : Int) : zun (zk1 x true D) (done ++ [x]):=fun y => by
 have hy:=h y
 unfold zvR at hy ⊢
 rw [zt3]
 by_cases c : x = y
 ·rw [if_pos c]; simp [c]
 ·rw [if_neg c,hy]
  have : (y ∈ done ++ [x]) ↔ y ∈ done:=by simp; exact fun e => absurd e.symm c
  rw [Bool.eq_iff_iff,decide_eq_true_eq,decide_eq_true_eq,this]
theorem zun.all {D : zEU} {done : List Int} (h : zun D done) (l : List Int) : l.all (zvR D) = l.all fun y => decide (y ∈ done):=by
 congr 1
 exact funext h
section
variable (b : PBlock) (n : Nat) (hn : n = b.ops.length) (hn2 : n ≤ 1000) (on : List (List Int)) (hon : on.length = n) (hol : ∀ l ∈ on,l.length ≤ 4294967296) (order : List Int) (ho : order.length = n)
include hn hn2 hon hol ho
end
end AC
namespace AC
open Go Go.A Go.A.Lex
theorem znL (ops : List POp) (a : Nat) : (zhe ops a).length ≤ a:=by
 unfold zhe
 rw [yt]
 exact yam (List.length_filter_le _ _) (by simp)
theorem zl4 (b : PBlock) : (zfA b).length = b.ops.length:=by unfold zfA; exact zgc _ _ _ _
section
variable (b : PBlock) (hb : okB b) (h1 : OneDef b.ops) (hs : ∀ o ∈ b.ops,o.args.length ≤ 64) (hn2 : b.ops.length ≤ 1000)
include hb h1 hs hn2
end
def zl0 (f : PFunc) (k at' : Int) : List Int:=if zgn f k = true ∧ 0 ≤ at' then (match f.blocks[k.toNat]? with | some b => (zfA b).getD at'.toNat [] | none => []) else []
theorem znU (f : PFunc) (hf : okF f) (k at' : Int) : call T 23 [zhc f,vI k,vI at'] [] = some (vIs (zl0 f k at'),[]):=by
 rw [ze (fn:=zeu) rfl]
 have hr:=zi0 f hf k
 cases e : zgn f k with
 | false =>
   have eF : zl0 f k at' = []:=by unfold zl0; rw [e,if_neg (fun h => yad h.1)]
   rw [e] at hr
   simp -implicitDefEqProofs only [go_sem] at hr
   simp -implicitDefEqProofs only [go_sem,zeu,hr,eF]
 | true =>
   obtain ⟨q1,q2,q3⟩:=zk6.1 e
   have hk : k.toNat < f.blocks.length:=by omega
   have hb : f.blocks[k.toNat]? = some f.blocks[k.toNat]:=yf hk
   have hm:=ym hk
   have hc:=zqN f.blocks[k.toNat] (hf.block _ hm) (q3.size hm).2 _ rfl (q3.size hm).1
   have hlen:=zl4 f.blocks[k.toNat]
   rw [e] at hr
   simp -implicitDefEqProofs only [go_sem] at hr hc
   by_cases c : at' < 0
   ·have eF : zl0 f k at' = []:=by unfold zl0; rw [if_neg (fun h => by omega)]
    simp -implicitDefEqProofs only [go_sem,zeu,hr,c,eF]
   ·have c1 : 0 ≤ at':=by omega
    have eF : zl0 f k at' = (zfA f.blocks[k.toNat]).getD at'.toNat []:=by unfold zl0; rw [if_pos ⟨e,c1⟩,hb]
    by_cases c2 : (f.blocks[k.toNat].ops.length : Int) ≤ at'
    ·have e0 : (zfA f.blocks[k.toNat]).getD at'.toNat [] = []:=by rw [ye,List.getElem?_eq_none (by omega)]; rfl
     simp -implicitDefEqProofs only [go_sem,zeu,hr,c,c2,q1,zp hk,rb,yo,hb,eF,e0]
    ·have e0 : (zfA f.blocks[k.toNat])[at'.toNat]? = some ((zfA f.blocks[k.toNat]).getD at'.toNat []):=by rw [ye,yf (by omega)]; rfl
     simp -implicitDefEqProofs only [go_sem,zeu,hr,c,c1,c2,q1,zp hk,rb,rl,yo,hb,hc,eF,e0]
end AC
namespace AC
open Go Go.A Go.A.Lex
section
variable (f : PFunc) (b : PBlock) (hb : okB b) (n : Nat) (hn : n = b.ops.length) (hn2 : n ≤ 1000) (on : List (List Int)) (hon : on.length = n) (hol : ∀ l ∈ on,l.length ≤ 4294967296)
include hb hn hn2 hon hol
end
end AC
namespace AC
open Go Go.A Go.A.Lex
section
variable (f : PFunc) (b : PBlock) (hb : okB b) (n : Nat) (hn : n = b.ops.length) (hn2 : n ≤ 1000) (on : List (List Int)) (hon : on.length = n) (hol : ∀ l ∈ on,l.length ≤ 4294967296)
include hb hn hn2 hon hol
end
end AC
namespace AC
open Go Go.A Go.A.Lex
end AC
namespace AC
open Go Go.A Go.A.Lex
def zyF (out : List Int) : Prop:=∀ v ∈ out,0 ≤ v ∧ v ≤ (out.length : Int)
theorem zrB {out : List Int} (h : zyF out) (j : Nat) : 0 ≤ out.getD j 0 ∧ out.getD j 0 ≤ (out.length : Int):=by
 rw [ye]
 cases e : out[j]? with
 | none => simp
 | some v => exact h v (List.mem_of_getElem? e)
theorem zsz {out : List Int} (h : zyF out) (l : List Int) : 0 ≤ zaB out l ∧ zaB out l ≤ (out.length : Int) + 1:=by
 unfold zaB
 have h1:=zmV (g:=fun k => out.getD k.toNat 0 + 1) l 0
 refine ⟨h1.1,?_⟩
 rcases zqE (g:=fun k => out.getD k.toNat 0 + 1) l 0 with e | ⟨k,_,e⟩
 ·rw [e]; omega
 ·rw [e]
  have:=(zrB h k.toNat).2
  omega
theorem zyF.step {out : List Int} (h : zyF out) (l : List Int) : zyF (out ++ [zaB out l]):=fun v hv => by
 have:=zsz h l
 rw [yk,yQ]
 rcases yW.1 hv with hv | hv
 ·have:=h v hv; omega
 ·rw [yK.1 hv]; omega
section
variable (f : PFunc) (on : List (List Int)) (hon : on.length ≤ 1000)
include hon
theorem zBn (i : Nat) (out : List Int) (ho : out.length ≤ 1000) (hL : zyF out) (l : List Int) (hll : l.length ≤ 4294967296) (hl : ∀ k ∈ l,0 ≤ k ∧ k < (out.length : Int)) : ∀ (d j : Nat) (n : Int) (a0 a1 a2 a3 a5 a7 a8 a12 a16 : V),l.length - j = d → j ≤ l.length →
  exec T zfT ⟨[a0,a1,a2,a3,.one (.ap 1 0 (out.map ri)),a5,vI n,a7,a8,vLs on,vI on.length,vI i,a12,vIs l,vI l.length,vI j,a16],[.cells 0 3 [zcW f],.tok 1 [out.length]],0,0⟩ =
   some (.exit 2,⟨[vU,vU,vU,vU,.one (.ap 1 0 (out.map ri)),vU,vI ((l.drop j).foldl (fun n k => max n (out.getD k.toNat 0 + 1)) n),vU,vU,vLs on,vI on.length,vI i,vU,vU,vU,vU,vU],[.cells 0 3 [zcW f],.tok 1 [out.length]],0,0⟩):=by
 intro d
 induction d with
 | zero =>
   intro j n a0 a1 a2 a3 a5 a7 a8 a12 a16 h1 h2
   have hj : j = l.length:=by omega
   subst hj
   have e : l.drop l.length = []:=by simp
   rw [e,List.foldl_nil,xl zfT rfl,zhJ]
   simp -implicitDefEqProofs only [go_sem,yr]
 | succ d ih =>
   intro j n a0 a1 a2 a3 a5 a7 a8 a12 a16 h1 h2
   have hj : j < l.length:=by omega
   have hdj : l.drop j = l[j] :: l.drop (j + 1):=yi hj
   obtain ⟨q1,q2⟩:=hl _ (ym hj)
   have hg:=zrB hL l[j].toNat
   have hw : Go.IntKind.i64.wrap (out.getD l[j].toNat 0 + 1) = out.getD l[j].toNat 0 + 1:=by rw [wrap_i64] <;> omega
   have ho' : out[l[j].toNat]? = some (out.getD l[j].toNat 0):=by rw [ye,yf (by omega)]; rfl
   have:=ih (j + 1) (max n (out.getD l[j].toNat 0 + 1)) vU vU vU vU vU vU vU vU vU (by omega) (by omega)
   rw [hdj,yO,xl zfT rfl,zhJ]
   simp -implicitDefEqProofs only [go_sem] at this
   simp -implicitDefEqProofs only [go_sem,ilt hj,zp hj,ri,q1,ho',yo,hw,za hj hll,this]
theorem zCa (hl : ∀ (i : Nat) (l : List Int),on[i]? = some l → l.length ≤ 4294967296 ∧ ∀ k ∈ l,0 ≤ k ∧ k < (i : Int)) : ∀ (d i : Nat) (out : List Int) (a0 a1 a2 a3 a5 a6 a7 a8 a12 a13 a14 a15 a16 : V),on.length - i = d → i ≤ on.length → out.length = i → zyF out →
  exec T zfU ⟨[a0,a1,a2,a3,.one (.ap 1 0 (out.map ri)),a5,a6,a7,a8,vLs on,vI on.length,vI i,a12,a13,a14,a15,a16],[.cells 0 3 [zcW f],.tok 1 [out.length]],0,0⟩ =
   some (.exit 0,⟨[vU,vU,vU,vU,.one (.ap 1 0 ((zdg out (on.drop i)).map ri)),vU,vU,vU,vU,vU,vU,vU,vU,vU,vU,vU,vU],[.cells 0 3 [zcW f],.tok 1 [(zdg out (on.drop i)).length]],0,0⟩):=by
 intro d
 induction d with
 | zero =>
   intro i out a0 a1 a2 a3 a5 a6 a7 a8 a12 a13 a14 a15 a16 h1 h2 h3 h4
   have hi : i = on.length:=by omega
   subst hi
   have e : on.drop on.length = []:=by simp
   rw [e,zdg,xl zfU rfl,zhD]
   simp -implicitDefEqProofs only [go_sem,yr]
 | succ d ih =>
   intro i out a0 a1 a2 a3 a5 a6 a7 a8 a12 a13 a14 a15 a16 h1 h2 h3 h4
   have hi : i < on.length:=by omega
   have hdi : on.drop i = on[i] :: on.drop (i + 1):=yi hi
   obtain ⟨q1,q2⟩:=hl i on[i] (yf hi)
   have h0:=fun a0 a1 a2 a3 a5 a7 a8 a12 a16 => zBn f on hon i out (by omega) h4 on[i] q1 (by rw [h3]; exact q2) on[i].length 0 0 a0 a1 a2 a3 a5 a7 a8 a12 a16 (by omega) (by omega)
   rw [yy] at h0
   have eR : on[i].foldl (fun n k => max n (out.getD k.toNat 0 + 1)) 0 = zaB out on[i]:=rfl
   rw [eR] at h0
   have hlim : out.length + 1 ≤ LIM:=by unfold LIM; omega
   have he : out.map ri ++ [[.lit (.int .i64 (zaB out on[i]))]] = (out ++ [zaB out on[i]]).map ri:=by simp [ri,ei]
   have hll : (out ++ [zaB out on[i]]).length = out.length + 1:=by simp
   have:=ih (i + 1) (out ++ [zaB out on[i]]) vU vU vU vU vU vU vU vU vU vU vU vU vU (by omega) (by omega) (by simp [h3]) (h4.step _)
   rw [hdi,zdg,xl zfU rfl,zhD]
   rw [hll] at this
   simp only [← he] at this
   simp -implicitDefEqProofs only [go_sem] at this h0
   simp -implicitDefEqProofs only [go_sem,ilt hi,zp hi,rl,h0,hlim,yt,za hi (show on.length ≤ 4294967296 by omega),this]
end
def zpo (f : PFunc) (k : Int) : List Int:=if zgn f k = true then (match f.blocks[k.toNat]? with | some b => zfz b | none => []) else []
theorem znP (f : PFunc) (hf : okF f) (k : Int) : call T 27 [zhc f,vI k] [] = some (vIs (zpo f k),[]):=by
 rw [ze (fn:=zgy) rfl]
 have hr:=zi0 f hf k
 cases e : zgn f k with
 | false =>
   have eF : zpo f k = []:=by unfold zpo; rw [e,if_neg yad]
   rw [e] at hr
   simp -implicitDefEqProofs only [go_sem] at hr
   simp -implicitDefEqProofs only [go_sem,zgy,hr,eF]
 | true =>
   obtain ⟨q1,q2,q3⟩:=zk6.1 e
   have hk : k.toNat < f.blocks.length:=by omega
   have hb : f.blocks[k.toNat]? = some f.blocks[k.toNat]:=yf hk
   have hm:=ym hk
   have eF : zpo f k = zfz f.blocks[k.toNat]:=by unfold zpo; rw [if_pos e,hb]
   have h1:=q3.oneDef hm
   have hsz:=q3.size hm
   have hc:=zqN f.blocks[k.toNat] (hf.block _ hm) hsz.2 _ rfl hsz.1
   have hlen:=zl4 f.blocks[k.toNat]
   have h:=fun a0 a1 a2 a3 a5 a6 a7 a8 a12 a13 a14 a15 a16 => zCa f (zfA f.blocks[k.toNat]) (by omega) (fun i l hl => by
    rw [zrg h1,yo] at hl
    cases c : (yE f.blocks[k.toNat].ops.length)[i]? with
    | none => rw [c] at hl; cases hl
    | some j =>
      rw [c] at hl
      simp only [yal,Option.some.injEq] at hl
      subst hl
      have hj : j = i:=by
       have:=(yd.1 c).2
       simpa using this.symm
      subst hj
      have hj2 : j < f.blocks[k.toNat].ops.length:=by simpa using (yd.1 c).1
      exact ⟨by have:=znL f.blocks[k.toNat].ops j; omega,fun x hx => zrm hx⟩) (zfA f.blocks[k.toNat]).length 0 [] a0 a1 a2 a3 a5 a6 a7 a8 a12 a13 a14 a15 a16 (by omega) (by omega) rfl (fun v hv => by simp at hv)
   rw [yy] at h
   have eD : zdg [] (zfA f.blocks[k.toNat]) = zfz f.blocks[k.toNat]:=rfl
   rw [eD] at h
   rw [e] at hr
   simp -implicitDefEqProofs only [go_sem] at hr hc h
   simp -implicitDefEqProofs only [go_sem,zgy,hr,hc,h,q1,zp hk,rb,yo,hb,eF]
end AC
namespace AC
open Go Go.A
def LB : Nat:=140737488351232
structure anyB (b : PBlock) : Prop where
 phis : b.phis.length ≤ LB
 ops : b.ops.length ≤ LB
 phi : ∀ p ∈ b.phis,p.src.length ≤ LB ∧ p.args.length ≤ LB
 op : ∀ o ∈ b.ops,(0 ≤ o.imm ∧ o.imm < 18446744073709551616) ∧ o.args.length ≤ LB
 to : b.to.length ≤ LB
structure anyF (f : PFunc) : Prop where
 params : f.params.length ≤ LB
 blocks : f.blocks.length ≤ LB
 block : ∀ b ∈ f.blocks,anyB b
theorem zuV {n : Nat} (h : n ≤ 9223372036854775807) : Go.IntKind.i64.wrap (n : Int) = (n : Int):=wrap_i64 (by omega) (by omega)
theorem zkj {k n : Nat} (h : k < n) (h' : n ≤ LB) : Go.IntKind.i64.wrap ((k : Int) + 1) = ((k + 1 : Nat) : Int):=by
 unfold LB at h'
 rw [wrap_i64] <;> omega
end AC
namespace AC
open Go Go.A Go.A.Lex
def zvB : Nat → List PPhi → Nat
 | n,[] => n
 | n,p :: r => if n ≤ 20000 then zvB (n + 1 + p.src.length + p.args.length) r else n
def zxz : Nat → List POp → Nat
 | n,[] => n
 | n,o :: r => if n ≤ 20000 then zxz (n + 1 + o.args.length) r else n
def zxE : Nat → List PBlock → Nat
 | n,[] => n
 | n,b :: r => if n ≤ 20000 then zxE (zxz (zvB (n + 1 + b.to.length) b.phis) b.ops) r else n
def zqO (f : PFunc) : Bool:=decide (zxE f.params.length f.blocks ≤ 20000)
theorem zzV (hL : LB = 140737488351232) : ∀ (l : List PPhi) (n : Nat),(∀ p ∈ l,p.src.length ≤ LB ∧ p.args.length ≤ LB) → n ≤ 500000000000000 → zvB n l ≤ 500000000000000
 | [],n,_,h => h
 | p :: l,n,hp,h => by
   have:=hp p yg
   rw [zvB]
   split
   ·exact zzV hL l _ (fun q hq => hp q (yh _ hq)) (by omega)
   ·exact h
theorem zx1 (hL : LB = 140737488351232) : ∀ (l : List POp) (n : Nat),(∀ p ∈ l,p.args.length ≤ LB) → n ≤ 500000000000000 → zxz n l ≤ 500000000000000
 | [],n,_,h => h
 | p :: l,n,hp,h => by
   have:=hp p yg
   rw [zxz]
   split
   ·exact zx1 hL l _ (fun q hq => hp q (yh _ hq)) (by omega)
   ·exact h
section
variable (f : PFunc) (hf : anyF f)
include hf
theorem zFb (i : Nat) (hi : i < f.blocks.length) : ∀ (d k n : Nat) (a0 a2 a6 a7 a8 a9 : V),f.blocks[i].phis.length - k = d → k ≤ f.blocks[i].phis.length → n ≤ 1000000000000000 →
  exec T zbF ⟨[a0,.one (.ptr 0 0 0 0),a2,vI (n : Int),vI i,vI k,a6,a7,a8,a9],[.cells 0 3 [zcW f]],0,0⟩ =
   some (.exit 2,⟨[vU,.one (.ptr 0 0 0 0),vU,vI (zvB n (f.blocks[i].phis.drop k) : Nat),vI i,vU,vU,vU,vU,vU],[.cells 0 3 [zcW f]],0,0⟩):=by
 have hb:=hf.block _ (ym hi)
 intro d
 induction d with
 | zero =>
   intro k n a0 a2 a6 a7 a8 a9 h1 h2 h3
   have hk : k = f.blocks[i].phis.length:=by omega
   subst hk
   have e : f.blocks[i].phis.drop f.blocks[i].phis.length = []:=by simp
   rw [xl zbF rfl,zdM,e,zvB]
   simp -implicitDefEqProofs only [go_sem,zp hi,rb,yr]
 | succ d ih =>
   intro k n a0 a2 a6 a7 a8 a9 h1 h2 h3
   have hk : k < f.blocks[i].phis.length:=by omega
   have hdk : f.blocks[i].phis.drop k = f.blocks[i].phis[k] :: f.blocks[i].phis.drop (k + 1):=yi hk
   have hp:=hb.phi _ (ym hk)
   have hL : LB = 140737488351232:=rfl
   rw [xl zbF rfl,zdM,hdk,zvB]
   by_cases c : n ≤ 20000
   ·have c' : ((n : Nat) : Int) ≤ 20000:=by omega
    have w1 : Go.IntKind.i64.wrap ((n : Int) + 1) = ((n + 1 : Nat) : Int):=zuV (n:=n + 1) (by omega)
    have w2 : Go.IntKind.i64.wrap (((n + 1 : Nat) : Int) + (f.blocks[i].phis[k].src.length : Int)) = ((n + 1 + f.blocks[i].phis[k].src.length : Nat) : Int):=zuV (n:=n + 1 + f.blocks[i].phis[k].src.length) (by omega)
    have w3 : Go.IntKind.i64.wrap (((n + 1 + f.blocks[i].phis[k].src.length : Nat) : Int) + (f.blocks[i].phis[k].args.length : Int)) = ((n + 1 + f.blocks[i].phis[k].src.length + f.blocks[i].phis[k].args.length : Nat) : Int):=zuV (n:=n + 1 + f.blocks[i].phis[k].src.length + f.blocks[i].phis[k].args.length) (by omega)
    have:=ih (k + 1) (n + 1 + f.blocks[i].phis[k].src.length + f.blocks[i].phis[k].args.length) vU vU vU vU vU vU (by omega) (by omega) (by omega)
    rw [if_pos c]
    simp -implicitDefEqProofs only [go_sem] at this
    simp -implicitDefEqProofs only [go_sem,ilt hk,zp hi,zp hk,rb,rp,c',w1,w2,w3,zkj hk hb.phis,this]
   ·have c' : ¬ ((n : Nat) : Int) ≤ 20000:=by omega
    rw [if_neg c]
    simp -implicitDefEqProofs only [go_sem,ilt hk,zp hi,rb,c']
theorem zE8 (i : Nat) (hi : i < f.blocks.length) : ∀ (d k n : Nat) (a0 a2 a5 a7 a8 a9 : V),f.blocks[i].ops.length - k = d → k ≤ f.blocks[i].ops.length → n ≤ 1000000000000000 →
  exec T zbC ⟨[a0,.one (.ptr 0 0 0 0),a2,vI (n : Int),vI i,a5,vI k,a7,a8,a9],[.cells 0 3 [zcW f]],0,0⟩ =
   some (.exit 4,⟨[vU,.one (.ptr 0 0 0 0),vU,vI (zxz n (f.blocks[i].ops.drop k) : Nat),vI i,vU,vU,vU,vU,vU],[.cells 0 3 [zcW f]],0,0⟩):=by
 have hb:=hf.block _ (ym hi)
 intro d
 induction d with
 | zero =>
   intro k n a0 a2 a5 a7 a8 a9 h1 h2 h3
   have hk : k = f.blocks[i].ops.length:=by omega
   subst hk
   have e : f.blocks[i].ops.drop f.blocks[i].ops.length = []:=by simp
   rw [xl zbC rfl,zdv,e,zxz]
   simp -implicitDefEqProofs only [go_sem,zp hi,rb,yr]
 | succ d ih =>
   intro k n a0 a2 a5 a7 a8 a9 h1 h2 h3
   have hk : k < f.blocks[i].ops.length:=by omega
   have hdk : f.blocks[i].ops.drop k = f.blocks[i].ops[k] :: f.blocks[i].ops.drop (k + 1):=yi hk
   have hp:=hb.op _ (ym hk)
   have hL : LB = 140737488351232:=rfl
   rw [xl zbC rfl,zdv,hdk,zxz]
   by_cases c : n ≤ 20000
   ·have c' : ((n : Nat) : Int) ≤ 20000:=by omega
    have w1 : Go.IntKind.i64.wrap ((n : Int) + 1) = ((n + 1 : Nat) : Int):=zuV (n:=n + 1) (by omega)
    have w2 : Go.IntKind.i64.wrap (((n + 1 : Nat) : Int) + (f.blocks[i].ops[k].args.length : Int)) = ((n + 1 + f.blocks[i].ops[k].args.length : Nat) : Int):=zuV (n:=n + 1 + f.blocks[i].ops[k].args.length) (by omega)
    have:=ih (k + 1) (n + 1 + f.blocks[i].ops[k].args.length) vU vU vU vU vU vU (by omega) (by omega) (by omega)
    rw [if_pos c]
    simp -implicitDefEqProofs only [go_sem] at this
    simp -implicitDefEqProofs only [go_sem,ilt hk,zp hi,zp hk,rb,ro,c',w1,w2,zkj hk hb.ops,this]
   ·have c' : ¬ ((n : Nat) : Int) ≤ 20000:=by omega
    rw [if_neg c]
    simp -implicitDefEqProofs only [go_sem,ilt hk,zp hi,rb,c']
theorem zFr : ∀ (d k n : Nat) (a0 a2 a5 a6 a7 a8 a9 : V),f.blocks.length - k = d → k ≤ f.blocks.length → n ≤ 500000000000000 →
  exec T zbt ⟨[a0,.one (.ptr 0 0 0 0),a2,vI (n : Int),vI k,a5,a6,a7,a8,a9],[.cells 0 3 [zcW f]],0,0⟩ =
   some (.exit 0,⟨[vU,vU,vU,vI (zxE n (f.blocks.drop k) : Nat),vU,vU,vU,vU,vU,vU],[.cells 0 3 [zcW f]],0,0⟩):=by
 have hL : LB = 140737488351232:=rfl
 intro d
 induction d with
 | zero =>
   intro k n a0 a2 a5 a6 a7 a8 a9 h1 h2 h3
   have hk : k = f.blocks.length:=by omega
   subst hk
   have e : f.blocks.drop f.blocks.length = []:=by simp
   rw [xl zbt rfl,zdr,e,zxE]
   simp -implicitDefEqProofs only [go_sem,yr]
 | succ d ih =>
   intro k n a0 a2 a5 a6 a7 a8 a9 h1 h2 h3
   have hk : k < f.blocks.length:=by omega
   have hdk : f.blocks.drop k = f.blocks[k] :: f.blocks.drop (k + 1):=yi hk
   have hb:=hf.block _ (ym hk)
   have hto:=hb.to
   rw [xl zbt rfl,zdr,hdk,zxE]
   by_cases c : n ≤ 20000
   ·have c' : ((n : Nat) : Int) ≤ 20000:=by omega
    have w1 : Go.IntKind.i64.wrap ((n : Int) + 1) = ((n + 1 : Nat) : Int):=zuV (n:=n + 1) (by omega)
    have w2 : Go.IntKind.i64.wrap (((n + 1 : Nat) : Int) + (f.blocks[k].to.length : Int)) = ((n + 1 + f.blocks[k].to.length : Nat) : Int):=zuV (n:=n + 1 + f.blocks[k].to.length) (by omega)
    have b1:=zzV hL f.blocks[k].phis (n + 1 + f.blocks[k].to.length) hb.phi (by omega)
    have b2:=zx1 hL f.blocks[k].ops _ (fun o ho => (hb.op o ho).2) b1
    have p1:=fun a0 a2 a6 a7 a8 a9 => zFb f hf k hk f.blocks[k].phis.length 0 (n + 1 + f.blocks[k].to.length) a0 a2 a6 a7 a8 a9 (by omega) (by omega) (by omega)
    have p2:=fun a0 a2 a5 a7 a8 a9 => zE8 f hf k hk f.blocks[k].ops.length 0 (zvB (n + 1 + f.blocks[k].to.length) f.blocks[k].phis) a0 a2 a5 a7 a8 a9 (by omega) (by omega) (by omega)
    have:=ih (k + 1) (zxz (zvB (n + 1 + f.blocks[k].to.length) f.blocks[k].phis) f.blocks[k].ops) vU vU vU vU vU vU vU (by omega) (by omega) b2
    rw [if_pos c]
    rw [yy] at p1 p2
    simp -implicitDefEqProofs only [go_sem] at this p1 p2
    simp -implicitDefEqProofs only [go_sem,ilt hk,zp hk,rb,c',w1,w2,p1,p2,zkj hk hf.blocks,this]
   ·have c' : ¬ ((n : Nat) : Int) ≤ 20000:=by omega
    rw [if_neg c]
    simp -implicitDefEqProofs only [go_sem,ilt hk,c']
theorem zrU : call T 61 [zhc f] [] = some (vB (zqO f),[]):=by
 have hL : LB = 140737488351232:=rfl
 have hp:=hf.params
 rw [ze (fn:=zb0) rfl]
 have h:=fun a0 a2 a5 a6 a7 a8 a9 => zFr f hf f.blocks.length 0 f.params.length a0 a2 a5 a6 a7 a8 a9 (by omega) (by omega) (by omega)
 rw [yy] at h
 simp -implicitDefEqProofs only [go_sem] at h
 unfold zqO
 by_cases c : zxE f.params.length f.blocks ≤ 20000
 ·have c' : ((zxE f.params.length f.blocks : Nat) : Int) ≤ 20000:=by omega
  simp -implicitDefEqProofs only [go_sem,zb0,h,c,c']
 ·have c' : ¬ ((zxE f.params.length f.blocks : Nat) : Int) ≤ 20000:=by omega
  simp -implicitDefEqProofs only [go_sem,zb0,h,c,c']
theorem zEh : ∀ (d k : Nat) (n : Int),f.blocks.length - k = d → k ≤ f.blocks.length →
  ∃ m : Int,∀ (a0 a2 a5 : V),exec T zbH ⟨[a0,.one (.ptr 0 0 0 0),a2,vI n,vI k,a5],[.cells 0 3 [zcW f]],0,0⟩ =
    some (.exit 0,⟨[vU,.one (.ptr 0 0 0 0),vU,vI m,vU,vU],[.cells 0 3 [zcW f]],0,0⟩):=by
 have hL : LB = 140737488351232:=rfl
 intro d
 induction d with
 | zero =>
   intro k n h1 h2
   have hk : k = f.blocks.length:=by omega
   subst hk
   refine ⟨n,fun a0 a2 a5 => ?_⟩
   rw [xl zbH rfl,zdz]
   simp -implicitDefEqProofs only [go_sem,yr]
 | succ d ih =>
   intro k n h1 h2
   have hk : k < f.blocks.length:=by omega
   obtain ⟨m,hm⟩:=ih (k + 1) (Go.IntKind.i64.wrap (Go.IntKind.i64.wrap (Go.IntKind.i64.wrap (n + 1) + (f.blocks[k].ops.length : Int)) + (f.blocks[k].phis.length : Int))) (by omega) (by omega)
   refine ⟨m,fun a0 a2 a5 => ?_⟩
   have:=hm vU vU vU
   rw [xl zbH rfl,zdz]
   simp -implicitDefEqProofs only [go_sem] at this
   simp -implicitDefEqProofs only [go_sem,ilt hk,zp hk,rb,zkj hk hf.blocks,this]
theorem zrC : ∃ b : Bool,call T 16 [zhc f] [] = some (vB b,[]) ∧ (b = true → zqO f = true):=by
 obtain ⟨m,hm⟩:=zEh f hf f.blocks.length 0 0 (by omega) (by omega)
 have hs:=zrU f hf
 rw [ze (fn:=zD) rfl]
 simp -implicitDefEqProofs only [go_sem] at hm hs
 cases c : zqO f
 ·refine ⟨false,?_,fun h => by cases h⟩
  rw [c] at hs
  simp -implicitDefEqProofs only [go_sem,zD,hm,hs]
 ·rw [c] at hs
  by_cases c1 : (f.blocks.length : Int) ≤ 16
  ·have c2' : ¬ (64 : Int) < (f.blocks.length : Int):=by omega
   by_cases c3 : m ≤ 100
   ·refine ⟨true,?_,fun _ => rfl⟩
    simp -implicitDefEqProofs only [go_sem,zD,hm,hs,c1,c3]
   ·by_cases c4 : 512 < m
    ·refine ⟨true,?_,fun _ => rfl⟩
     simp -implicitDefEqProofs only [go_sem,zD,hm,hs,c1,c2',c3,c4]
    ·refine ⟨false,?_,fun h => by cases h⟩
     simp -implicitDefEqProofs only [go_sem,zD,hm,hs,c1,c2',c3,c4]
  ·by_cases c2 : (64 : Int) < (f.blocks.length : Int)
   ·refine ⟨true,?_,fun _ => rfl⟩
    simp -implicitDefEqProofs only [go_sem,zD,hm,hs,c1,c2]
   ·by_cases c4 : 512 < m
    ·refine ⟨true,?_,fun _ => rfl⟩
     simp -implicitDefEqProofs only [go_sem,zD,hm,hs,c1,c2,c4]
    ·refine ⟨false,?_,fun h => by cases h⟩
     simp -implicitDefEqProofs only [go_sem,zD,hm,hs,c1,c2,c4]
end
theorem zyC : ∀ (l : List PPhi) (n : Nat),zvB n l ≤ 20000 → n + l.length ≤ zvB n l ∧ ∀ p ∈ l,p.src.length ≤ 20000 ∧ p.args.length ≤ 20000
 | [],n,_ => ⟨yP _,fun _ h => by simp at h⟩
 | p :: l,n,h => by
   rw [zvB] at h ⊢
   split at h
   ·rename_i c
    obtain ⟨h1,h2⟩:=zyC l _ h
    rw [if_pos c]
    refine ⟨by simp only [yl]; omega,fun q hq => ?_⟩
    rcases yn.1 hq with rfl | hq
    ·omega
    ·exact h2 q hq
   ·omega
theorem zzQ : ∀ (l : List POp) (n : Nat),zxz n l ≤ 20000 → n + l.length ≤ zxz n l ∧ ∀ p ∈ l,p.args.length ≤ 20000
 | [],n,_ => ⟨yP _,fun _ h => by simp at h⟩
 | p :: l,n,h => by
   rw [zxz] at h ⊢
   split at h
   ·rename_i c
    obtain ⟨h1,h2⟩:=zzQ l _ h
    rw [if_pos c]
    refine ⟨by simp only [yl]; omega,fun q hq => ?_⟩
    rcases yn.1 hq with rfl | hq
    ·omega
    ·exact h2 q hq
   ·omega
theorem zzM : ∀ (l : List PBlock) (n : Nat),(∀ b ∈ l,anyB b) → zxE n l ≤ 20000 → n + l.length + (l.map fun b => b.phis.length + b.ops.length).sum ≤ zxE n l ∧ ∀ b ∈ l,okB b
 | [],n,_,_ => ⟨by simp [zxE],fun _ h => by simp at h⟩
 | b :: l,n,ha,h => by
   rw [zxE] at h ⊢
   split at h
   ·rename_i c
    obtain ⟨h1,h2⟩:=zzM l _ (fun x hx => ha x (yh _ hx)) h
    rw [if_pos c]
    obtain ⟨o1,o2⟩:=zzQ b.ops _ (show zxz (zvB (n + 1 + b.to.length) b.phis) b.ops ≤ 20000 by omega)
    obtain ⟨p1,p2⟩:=zyC b.phis _ (show zvB (n + 1 + b.to.length) b.phis ≤ 20000 by omega)
    refine ⟨by simp only [yl,yJ,List.sum_cons]; omega,fun q hq => ?_⟩
    rcases yn.1 hq with rfl | hq
    ·have hb:=ha q yg
     exact ⟨by omega,by omega,fun p hp => by have:=p2 p hp; exact ⟨by omega,by omega⟩,fun o ho => ⟨(hb.op o ho).1,by have:=o2 o ho; omega⟩,by omega⟩
    ·exact h2 q hq
   ·omega
theorem zB1 {f : PFunc} (hf : anyF f) (h : zqO f = true) : okF f:=by
 unfold zqO at h
 rw [decide_eq_true_eq] at h
 obtain ⟨h1,h2⟩:=zzM f.blocks _ hf.block h
 exact ⟨by omega,by omega,h2,by omega⟩
end AC
namespace Go.A
open Go.Sort
theorem zAJ {c : C} {v : Value} (h : zui c = some (.lit v)) : c = .f (.lit v):=by
 cases c <;> simp only [zui] at h <;> first | (injection h with h; injection h) | (injection h with h; rw [h]) | cases h
theorem zsq : ∀ {es : List (List C)} {l : List Int},(zaq es).bind zgi = some l → es = l.map zj
 | [],l,h => by simp [zaq,zgi] at h; subst h; rfl
 | e :: es,l,h => by
   simp only [zaq] at h
   unfold zfO at h
   split at h
   ·rename_i x xs h1 h2
    simp only [Option.bind_some,zgi] at h
    unfold zfO at h
    split at h
    ·rename_i y ys k1 k2
     injection h with h
     subst h
     have ih:=zsq (es:=es) (l:=ys) (by rw [h2]; exact k2)
     subst ih
     have : e = zj y:=by
      unfold zvh at k1
      split at k1
      ·rename_i z
       injection k1 with k1
       subst k1
       cases e with
       | nil => simp [zdo] at h1
       | cons c cs =>
         simp only [zdo] at h1
         unfold zfO at h1
         split at h1
         ·rename_i a0 bs q1 q2
          injection h1 with h1
          injection h1 with h3 h4
          subst h3 h4
          cases cs with
          | nil => rw [zAJ q1]; rfl
          | cons c2 cs =>
            simp only [zdo] at q2
            unfold zfO at q2
            split at q2
            ·cases q2
            ·cases q2
         ·cases h1
      ·cases k1
     rw [this]
     rfl
    ·cases h
   ·simp at h
theorem znK {ver n : Nat} {o : Ob} {l : List Int} (h : zhO ver n o = some l) : o = .cells ver 1 (l.map zj) ∧ l.length = n ∧ n ≤ LIM:=by
 cases o with
 | tok _ _ => simp [zhO] at h
 | mp _ => simp [zhO] at h
 | cells ver' sz es =>
   simp only [zhO] at h
   split at h
   ·rename_i hc
    obtain ⟨rfl,rfl,h3,h4⟩:=hc
    have:=zsq h
    subst this
    exact ⟨rfl,by simpa using h3,h4⟩
   ·cases h
section
variable {g : G} {w : World} {σ : zd}
theorem zvN (R : Rel g w σ) {id ver : Nat} {l : List Int} (hid : σ[id]? = some (.cells ver 1 (l.map zj))) (hl : l ≠ []) {u : Value} (hv : zf g w σ (.one (.own id ver 0 l.length)) u) :
  ∃ c arr t,u = .slice (some ⟨g.ρ id,0,none⟩) l.length c ∧ l.length ≤ c ∧ w.heap[g.ρ id]? = some (.cells arr t (0,0)) ∧ l.length ≤ arr.size ∧ (∀ (j : Nat) x,l[j]? = some x → arr[j]? = some (.int .i64 x)) ∧ g.ow (g.ρ id) = .ob id ∧ ∀ o,¬ g.N (g.ρ id) o:=by
 obtain ⟨a,c,e1,e2,e3,e4⟩:=zfP hv hid
 have hne : l.map zj ≠ []:=by simpa using hl
 obtain ⟨k1,k2,arr,t,k3,k4,k5⟩:=R.ob id _ hid hne
 have hpos : 0 < l.length:=List.length_pos_iff.2 hl
 obtain ⟨_,f2,_⟩:=e4 (by simp; omega)
 have ha:=f2 (by omega)
 refine ⟨c,arr,t,(by rw [e1,ha]; try simp),e2,k3,by simpa using k4,fun j x hj => ?_,k1,k2⟩
 obtain ⟨_,h2⟩:=k5 j (zj x) (by simp [hj])
 obtain ⟨v,q1,q2,_⟩:=h2 0 (.f (.lit (.int .i64 x))) (by simp [zj])
 simp only [zw,rep] at q2
 rw [← q2.1]
 simpa using q1
theorem ztn (R : Rel g w σ) {l : List Int} {b : Nat} {arr : Array Value} {t : TypeId} (h : w.heap[b]? = some (.cells arr t (0,0))) (h2 : ∀ (j : Nat) x,l[j]? = some x → arr[j]? = some (.int .i64 x)) : Holds (Value.int .i64) w b 0 l.toArray:=fun j hj => by
 have hj' : j < l.length:=by simpa using hj
 refine ⟨?_,by simp [World.frozen?,h]⟩
 rw [zg2 h,yao,h2 j l[j] (by simp [hj'])]
 simp [hj']
theorem zrl {q : Nat} {b : Nat} {d : Array Int} {os : Array Obj} {arr : Array Value} {t : TypeId} (h : w.heap[b]? = some (.cells arr t (0,0))) :
  (grow (putRow (Value.int .i64) (Sort.ahead w q) b 0 d) os).heap[b]? = some (.cells (putCells (Value.int .i64) 0 d arr) t (0,0)):=by
 have hb : b < w.heap.size:=(yG.1 h).1
 simp only [grow,putRow,mapBlock,Sort.ahead]
 rw [yZ (by simpa using hb),yaa,if_pos rfl,h]
 rfl
theorem zp9 {q : Nat} {b j : Nat} {d : Array Int} {os : Array Obj} (hj : j < w.heap.size) (hne : j ≠ b) :
  (grow (putRow (Value.int .i64) (Sort.ahead w q) b 0 d) os).heap[j]? = w.heap[j]?:=by
 simp only [grow,putRow,mapBlock,Sort.ahead]
 rw [yZ (by simpa using hj),yaa,if_neg (Ne.symm hne)]
theorem ziS (d : Array Int) (arr : Array Value) : (putCells (Value.int .i64) 0 d arr).size = arr.size:=by simp [putCells]
theorem znj {d : Array Int} {arr : Array Value} {j : Nat} (hj : j < d.size) (hd : d.size ≤ arr.size) : (putCells (Value.int .i64) 0 d arr)[j]? = some (.int .i64 d[j]):=by
 have h1 : j < arr.size:=by omega
 have h2 : j < (putCells (Value.int .i64) 0 d arr).size:=by rw [ziS]; exact h1
 rw [Array.getElem?_eq_getElem h2]
 simp [putCells,hj]
theorem zDy (R : Rel g w σ) {id ver : Nat} {l : List Int} (hid : σ[id]? = some (.cells ver 1 (l.map zj))) {l' : List Int} (hl' : l'.length = l.length) {arr : Array Value} {t : TypeId}
  (hh : w.heap[g.ρ id]? = some (.cells arr t (0,0))) (hsz : l.length ≤ arr.size) (how : g.ow (g.ρ id) = .ob id) (hN : ∀ o,¬ g.N (g.ρ id) o) (q : Nat) (os : Array Obj) :
  Ext g w σ g (grow (putRow (Value.int .i64) (Sort.ahead w q) (g.ρ id) 0 l'.toArray) os) (σ.set id (.cells ver 1 (l'.map zj))) ∧
  Rel g (grow (putRow (Value.int .i64) (Sort.ahead w q) (g.ρ id) 0 l'.toArray) os) (σ.set id (.cells ver 1 (l'.map zj))):=by
 refine replace (g':=g) R hid (fun b => b = g.ρ id) rfl rfl rfl (by simp [grow,Sort.ahead]) (fun b hb ht => ⟨zp9 hb ht,rfl,fun _ h => h⟩)
  (fun b hb => ⟨.inl (by rw [hb]; exact how),rfl,fun o h => absurd (by rw [hb] at h; exact h) (hN o)⟩) (fun _ _ _ h => h) (fun _ _ => rfl) (fun _ _ _ => rfl)
  (fun b o h => by have:=R.nb b o h; simp [grow,Sort.ahead]; omega) ?_ ?_ ?_ (fun _ _ h => by cases h) ?_
 ·intro ver' sz' len' hs
  refine .inl ⟨?_,rfl,fun _ arr0 t0 h0 => ?_⟩
  ·rw [zn hid] at hs
   injection hs with hs
   rw [zn (zy hid),← hs]
   simp [hl']
  ·rw [hh] at h0
   injection h0 with h0
   injection h0 with h0 h0t
   subst h0
   subst h0t
   exact ⟨_,zrl hh,ziS _ _⟩
 ·intro es' h; cases h
 ·intro k n h; simp [zlw,hid,Ob.fr] at h
 ·intro H hne'
  refine ⟨how,hN,_,t,zrl hh,by rw [ziS]; simp [hl']; omega,fun i e he => ?_⟩
  rw [yo,yH] at he
  obtain ⟨x,hx,rfl⟩:=he
  refine ⟨rfl,fun j c hc => ?_⟩
  have hi : i < l'.length:=(yd.1 hx).1
  cases j with
  | succ j => simp [zj] at hc
  | zero =>
    simp [zj] at hc
    subst hc
    refine ⟨.int .i64 x,?_,by simp [zw,rep,zxD],rfl⟩
    rw [yar,y4,znj (by simpa using hi) (by simp; omega)]
    have:=(yd.1 hx).2
    simp [this]
theorem zBy (R : Rel g w σ) {id ver : Nat} {l : List Int} (hid : σ[id]? = some (.cells ver 1 (l.map zj))) {d : Array Int} {arr : Array Value} {t : TypeId}
  (hh : w.heap[g.ρ id]? = some (.cells arr t (0,0))) (how : g.ow (g.ρ id) = .ob id) (hN : ∀ o,¬ g.N (g.ρ id) o) (q : Nat) (os : Array Obj) :
  Ext g w σ (g.give (g.ρ id)) (grow (putRow (Value.int .i64) (Sort.ahead w q) (g.ρ id) 0 d) os) (σ.set id (.cells (ver + 1) 1 [])) ∧
  Rel (g.give (g.ρ id)) (grow (putRow (Value.int .i64) (Sort.ahead w q) (g.ρ id) 0 d) os) (σ.set id (.cells (ver + 1) 1 [])):=by
 have hb : g.ρ id < w.heap.size:=(yG.1 hh).1
 refine replace (g':=g.give (g.ρ id)) R hid (fun b => b = g.ρ id) rfl rfl rfl (by simp [grow,Sort.ahead]) (fun b hb ht => ⟨zp9 hb ht,rfl,fun o h => h.elim (fun x => x) (fun e => absurd e ht)⟩)
  (fun b hb => ⟨.inl (by rw [hb]; exact how),rfl,fun o h => absurd (by rw [hb] at h; exact h) (hN o)⟩) (fun _ _ _ h => .inl h) (fun _ _ => rfl) (fun _ _ _ => rfl)
  (fun b o h => by
   simp only [grow,Array.size_append,size_putRow,Sort.ahead]
   rcases h with h | h
   ·have:=R.nb b o h; omega
   ·omega) ?_ ?_ ?_ (fun _ _ h => by cases h) ?_
 ·intro ver' sz' len' hs
  rw [zn hid] at hs
  injection hs with hs
  injection hs with h1 h2
  injection h2 with h2 h3
  subst h1 h2
  exact .inr ⟨ver + 1,0,by rw [zn (zy hid)]; rfl,by omega⟩
 ·intro es' h; cases h
 ·intro k n h; simp [zlw,hid,Ob.fr] at h
 ·intro H hne'
  exact absurd rfl hne'
end
end Go.A
namespace Go.A
open Go.Lib
def zgs : Option Int → List Int → List Int
 | _,[] => []
 | p,x :: r => if p = some x then zgs p r else x :: zgs (some x) r
theorem znb : ∀ (r : List Int) (x : Int),x :: zgs (some x) r = zl (x :: r)
 | [],x => rfl
 | y :: r,x => by
   simp only [zl,zgs]
   by_cases h : x = y
   ·subst h
    rw [if_pos rfl,if_pos rfl]
    exact znb r x
   ·rw [if_neg (by simpa using h),if_neg h,znb r y]
theorem zrI (l : List Int) : zgs none l = zl l:=by
 cases l with
 | nil => rfl
 | cons x r => simp [zgs,znb]
theorem zsY (l : List Int) : ∀ (n k : Nat),k + n = l.length → (((yas k n).filter (keeps l.toArray)).map (l.toArray[·]!)) = zgs (if k = 0 then none else l[k - 1]?) (l.drop k)
 | 0,k,h => by
   rw [List.drop_of_length_le (by omega)]
   simp [zgs]
 | n + 1,k,h => by
   have hk : k < l.length:=by omega
   have ih:=zsY l n (k + 1) (by omega)
   rw [yi hk]
   simp only [List.range'_succ,zgs,y3]
   simp only [Nat.add_one_ne_zero,if_false,Nat.add_sub_cancel,yf hk] at ih
   have e : l.toArray[k]! = l[k]:=by simp [hk]
   by_cases h0 : k = 0
   ·subst h0
    have hkeep : keeps l.toArray 0 = true:=by simp [keeps]
    rw [hkeep,if_pos rfl,if_pos rfl,if_neg (by simp),yJ,ih,e]
   ·have hk1 : k - 1 < l.length:=by omega
    have e1 : l.toArray[k - 1]! = l[k - 1]:=by simp [hk1]
    rw [if_neg h0,yf hk1]
    by_cases hd : l[k - 1] = l[k]
    ·have hkeep : keeps l.toArray k = false:=by
      have : ¬ l.toArray[k]! ≠ l.toArray[k - 1]!:=by rw [e,e1,hd]; simp
      simp only [keeps,h0,false_or,decide_eq_false_iff_not]
      exact this
     simp only [hkeep,Bool.false_eq_true,if_false]
     rw [if_pos (by rw [hd]),ih,hd]
    ·have hkeep : keeps l.toArray k = true:=by
      have : l.toArray[k]! ≠ l.toArray[k - 1]!:=by rw [e,e1]; exact fun h => hd h.symm
      simp only [keeps,h0,false_or,decide_eq_true_eq]
      exact this
     simp only [hkeep,if_true,yJ]
     rw [if_neg (by simpa using hd),ih,e]
theorem zwU (l : List Int) : Lib.compact l = zl l:=by
 have:=zsY l l.length 0 (by simp)
 simp only [if_true,yy] at this
 rw [← zrI,← this,Lib.compact,compactUpTo,y7]
theorem zo5 : ∀ l : List Int,(zl l).length ≤ l.length
 | [] => by simp [zl]
 | [x] => by simp [zl]
 | x :: y :: r => by
   have:=zo5 (y :: r)
   simp only [zl]
   split
   ·simp only [yl] at this ⊢; omega
   ·simp only [yl] at this ⊢; omega
end Go.A
namespace Go.Proofs
open Go.Shelf
def Tryz.sorted_ren : Go.Shelf.Ren:=⟨fun | 6 => 145 | 8 => 176 | 9 => 117 | 11 => 226 | 13 => 168 | 12 => 167 | 23 => 222 | 24 => 223 | 14 => 213 | 15 => 214 | 16 => 215 | 17 => 216 | 18 => 217 | 19 => 218 | 20 => 219 | 21 => 220 | 22 => 221 | 25 => 241 | 26 => 242 | 27 => 243 | 28 => 244 | 29 => 245 | 30 => 246 | 31 => 256 | n => n,fun | 26 => 3 | 28 => 177 | 24 => 22 | 0 => 0 | 3 => 3 | 37 => 199 | 48 => 230 | 50 => 49 | 4 => 4 | 40 => 225 | 39 => 224 | 45 => 138 | 5 => 5 | 9 => 9 | 51 => 244 | 55 => 248 | 57 => 254 | 58 => 144 | 33 => 48 | n => n,fun | n => n⟩
theorem Tryz.sorted : Go.Proofs.SlLaysZI.n6 Tryz.prog Tryz.sorted_ren:={
 mixed:=by kernel_rfl
 f6:=⟨Tryz.f145.name,by decide,Tryz.func145.trans (congrArg some (by kernel_rfl))⟩
 f8:=⟨Tryz.f176.name,by decide,Tryz.func176.trans (congrArg some (by kernel_rfl))⟩
 f11:=⟨Tryz.f226.name,by decide,Tryz.func226.trans (congrArg some (by kernel_rfl))⟩
 t0:=Tryz.underlying0
 a0:=Tryz.isAgg0
 z0:=Tryz.sizeOf0
 v0:=Tryz.zeroValue0
 t24:=Tryz.underlying22
 a24:=Tryz.isAgg22
 z24:=Tryz.sizeOf22
 v24:=Tryz.zeroValue22
 t26:=Tryz.underlying3
 a26:=Tryz.isAgg3
 z26:=Tryz.sizeOf3
 v26:=Tryz.zeroValue3
 t28:=Tryz.underlying177
 a28:=Tryz.isAgg177
 z28:=Tryz.sizeOf177
 v28:=Tryz.zeroValue177
 i26:=by kernel_rfl }
def Tryz.sort_ren : Go.Shelf.Ren:=⟨fun | 5 => 117 | 8 => 168 | 7 => 167 | 19 => 222 | 20 => 223 | 10 => 213 | 11 => 214 | 12 => 215 | 13 => 216 | 14 => 217 | 15 => 218 | 16 => 219 | 17 => 220 | 18 => 221 | 30 => 241 | 31 => 242 | 32 => 243 | 33 => 244 | 34 => 245 | 35 => 246 | 40 => 256 | n => n,fun | 23 => 22 | 25 => 3 | 3 => 3 | 32 => 199 | 22 => 22 | 0 => 0 | 44 => 230 | 46 => 49 | 4 => 4 | 36 => 225 | 35 => 224 | 41 => 138 | 5 => 5 | 9 => 9 | 53 => 244 | 57 => 248 | 63 => 254 | 64 => 144 | n => n,fun | n => n⟩
theorem Tryz.sort : Go.Proofs.SlLaysM.n5 Tryz.prog Tryz.sort_ren:={
 mixed:=by kernel_rfl
 f5:=⟨Tryz.f117.name,by decide,Tryz.func117.trans (congrArg some (by kernel_rfl))⟩
 f7:=⟨Tryz.f167.name,by decide,Tryz.func167.trans (congrArg some (by kernel_rfl))⟩
 f8:=Tryz.func168.trans (congrArg some (by kernel_rfl))
 f10:=⟨Tryz.f213.name,by decide,Tryz.func213.trans (congrArg some (by kernel_rfl))⟩
 f11:=⟨Tryz.f214.name,by decide,Tryz.func214.trans (congrArg some (by kernel_rfl))⟩
 f12:=⟨Tryz.f215.name,by decide,Tryz.func215.trans (congrArg some (by kernel_rfl))⟩
 f13:=⟨Tryz.f216.name,by decide,Tryz.func216.trans (congrArg some (by kernel_rfl))⟩
 f14:=⟨Tryz.f217.name,by decide,Tryz.func217.trans (congrArg some (by kernel_rfl))⟩
 f15:=⟨Tryz.f218.name,by decide,Tryz.func218.trans (congrArg some (by kernel_rfl))⟩
 f16:=⟨Tryz.f219.name,by decide,Tryz.func219.trans (congrArg some (by kernel_rfl))⟩
 f17:=⟨Tryz.f220.name,by decide,Tryz.func220.trans (congrArg some (by kernel_rfl))⟩
 f18:=⟨Tryz.f221.name,by decide,Tryz.func221.trans (congrArg some (by kernel_rfl))⟩
 f19:=Tryz.func222.trans (congrArg some (by kernel_rfl))
 f20:=Tryz.func223.trans (congrArg some (by kernel_rfl))
 f30:=⟨Tryz.f241.name,by decide,Tryz.func241.trans (congrArg some (by kernel_rfl))⟩
 f31:=Tryz.func242.trans (congrArg some (by kernel_rfl))
 f32:=Tryz.func243.trans (congrArg some (by kernel_rfl))
 f33:=⟨Tryz.f244.name,by decide,Tryz.func244.trans (congrArg some (by kernel_rfl))⟩
 f34:=⟨Tryz.f245.name,by decide,Tryz.func245.trans (congrArg some (by kernel_rfl))⟩
 f35:=⟨Tryz.f246.name,by decide,Tryz.func246.trans (congrArg some (by kernel_rfl))⟩
 f40:=⟨Tryz.f256.name,by decide,Tryz.func256.trans (congrArg some (by kernel_rfl))⟩
 t0:=Tryz.underlying0
 a0:=Tryz.isAgg0
 z0:=Tryz.sizeOf0
 v0:=Tryz.zeroValue0
 t3:=Tryz.underlying3
 a3:=Tryz.isAgg3
 z3:=Tryz.sizeOf3
 v3:=Tryz.zeroValue3
 t4:=Tryz.underlying4
 a4:=Tryz.isAgg4
 z4:=Tryz.sizeOf4
 v4:=Tryz.zeroValue4
 t5:=Tryz.underlying5
 a5:=Tryz.isAgg5
 z5:=Tryz.sizeOf5
 v5:=Tryz.zeroValue5
 t9:=Tryz.underlying9
 a9:=Tryz.isAgg9
 z9:=Tryz.sizeOf9
 v9:=Tryz.zeroValue9
 t22:=Tryz.underlying22
 a22:=Tryz.isAgg22
 z22:=Tryz.sizeOf22
 v22:=Tryz.zeroValue22
 t23:=Tryz.underlying22
 a23:=Tryz.isAgg22
 z23:=Tryz.sizeOf22
 v23:=Tryz.zeroValue22
 t25:=Tryz.underlying3
 a25:=Tryz.isAgg3
 z25:=Tryz.sizeOf3
 v25:=Tryz.zeroValue3
 t32:=Tryz.underlying199
 a32:=Tryz.isAgg199
 z32:=Tryz.sizeOf199
 v32:=Tryz.zeroValue199
 t35:=Tryz.underlying224
 a35:=Tryz.isAgg224
 z35:=Tryz.sizeOf224
 v35:=Tryz.zeroValue224
 t36:=Tryz.underlying225
 a36:=Tryz.isAgg225
 z36:=Tryz.sizeOf225
 v36:=Tryz.zeroValue225
 t41:=Tryz.underlying138
 a41:=Tryz.isAgg138
 z41:=Tryz.sizeOf138
 v41:=Tryz.zeroValue138
 t44:=Tryz.underlying230
 a44:=Tryz.isAgg230
 z44:=Tryz.sizeOf230
 v44:=Tryz.zeroValue230
 t46:=Tryz.underlying49
 a46:=Tryz.isAgg49
 z46:=Tryz.sizeOf49
 v46:=Tryz.zeroValue49
 t53:=Tryz.underlying244
 a53:=Tryz.isAgg244
 z53:=Tryz.sizeOf244
 v53:=Tryz.zeroValue244
 t57:=Tryz.underlying248
 a57:=Tryz.isAgg248
 z57:=Tryz.sizeOf248
 v57:=Tryz.zeroValue248
 t63:=Tryz.underlying254
 a63:=Tryz.isAgg254
 z63:=Tryz.sizeOf254
 v63:=Tryz.zeroValue254
 t64:=Tryz.underlying144
 a64:=Tryz.isAgg144
 z64:=Tryz.sizeOf144
 v64:=Tryz.zeroValue144 }
end Go.Proofs
namespace Go.Proofs
open Go.Shelf
def Tryz.compact_ren : Go.Shelf.Ren:=⟨fun | 43 => 118 | n => n,fun | 22 => 22 | 23 => 3 | 3 => 3 | 4 => 4 | 0 => 0 | n => n,fun n => n⟩
theorem Tryz.compact : Go.Proofs.SlLaysN.n43 Tryz.prog Tryz.compact_ren:={
 mixed:=by kernel_rfl
 f43:=⟨Tryz.f118.name,by decide,Tryz.func118.trans (congrArg some (by kernel_rfl))⟩
 t0:=Tryz.underlying0
 a0:=Tryz.isAgg0
 z0:=Tryz.sizeOf0
 v0:=Tryz.zeroValue0
 t3:=Tryz.underlying3
 a3:=Tryz.isAgg3
 z3:=Tryz.sizeOf3
 v3:=Tryz.zeroValue3
 t4:=Tryz.underlying4
 a4:=Tryz.isAgg4
 z4:=Tryz.sizeOf4
 v4:=Tryz.zeroValue4
 t22:=Tryz.underlying22
 a22:=Tryz.isAgg22
 z22:=Tryz.sizeOf22
 v22:=Tryz.zeroValue22
 t23:=Tryz.underlying3
 a23:=Tryz.isAgg3
 z23:=Tryz.sizeOf3
 v23:=Tryz.zeroValue3
 i23:=by kernel_rfl }
end Go.Proofs
namespace Go.Proofs
open Go.A Go.Sort
theorem zqL {g : G} {w : World} {σ : zd} {id ver : Nat} (hid : σ[id]? = some (.cells ver 1 [])) {u : Value} (hv : zf g w σ (.one (.own id ver 0 0)) u) : ∃ a,u = .slice a 0 0:=by
 obtain ⟨a,c,e1,e2,e3,e4⟩:=zfP hv hid
 exact ⟨a,by rw [e1,e3 rfl]⟩
theorem zB7 {σ : zd} {id : Nat} {o : Ob} (h : σ[id]? = some o) : σ.set id o = σ:=by
 apply List.ext_getElem?
 intro j
 rw [List.getElem?_set]
 by_cases e : id = j
 ·subst e
  rw [if_pos rfl,if_pos (yd.1 h).1,h]
 ·rw [if_neg e]
theorem Tryz.ext_sort (args : List V) (σ : zd) (v : V) (σ' : zd) (h : zlt args σ = some (v,σ')) :
  Go.A.Enters Tryz.prog 117 ∧ ∀ g w us,Rel g w σ → zz g w σ args us → Calls Tryz.prog 117 us.toArray w fun e w' => ∃ u g',e = .returned u ∧ zf g' w' σ' v u ∧ Rel g' w' σ' ∧ Ext g w σ g' w' σ':=by
 refine ⟨⟨Tryz.f117,_,Tryz.func117,by kernel_rfl,rfl⟩,fun g w us R0 hv => ?_⟩
 have htup : ∀ (g : G) (w : World) (σ : zd),zf g w σ (.tup []) (.tuple #[]):=fun g w σ => by simp only [zf]; exact ⟨#[],rfl,by simp only [zz]⟩
 unfold zlt at h
 split at h
 ·injection h with h
  simp only [Prod.mk.injEq] at h
  obtain ⟨rfl,rfl⟩:=h
  simp only [zz,zf,zw,rep] at hv
  obtain ⟨u,rest,rfl,⟨a,c,sz,rfl,_⟩,rfl⟩:=hv
  have hc:=AnyM.slices_Sort_int_none Tryz.sort a c w
  refine Calls.mono (f:=117) hc fun e w' he => ?_
  obtain ⟨rfl,rfl⟩:=he
  exact ⟨_,g,rfl,htup _ _ _,R0,Ext.refl _ _ _⟩
 ·rename_i id ver n
  rw [yH] at h
  obtain ⟨l,h1,h2⟩:=h
  rw [y6] at h1
  obtain ⟨o,hid,h1⟩:=h1
  obtain ⟨rfl,hn,hlim⟩:=znK h1
  subst hn
  simp only [zom,Prod.mk.injEq] at h2
  obtain ⟨rfl,rfl⟩:=h2
  simp only [zz] at hv
  obtain ⟨u,rest,rfl,hv,rfl⟩:=hv
  have hperm : (zbX l).length = l.length:=List.length_mergeSort l
  by_cases hl : l = []
  ·subst hl
   obtain ⟨a,rfl⟩:=zqL hid hv
   have hc:=AnyM.slices_Sort_int_none Tryz.sort a 0 w
   refine Calls.mono (f:=117) hc fun e w' he => ?_
   obtain ⟨rfl,rfl⟩:=he
   have hs : zbX [] = []:=by simp [zbX]
   rw [hs,zB7 hid]
   exact ⟨_,g,rfl,htup _ _ _,R0,Ext.refl _ _ _⟩
  ·obtain ⟨c,arr,t,rfl,q1,q2,q3,q4,q5,q6⟩:=zvN R0 hid hl hv
   have hc:=AnyM.slices_Sort_int Tryz.sort (g.ρ id) 0 c l w (ztn R0 q2 q4) (yG.1 q2).1 (by unfold LIM at hlim; omega)
   refine Calls.mono (f:=117) hc fun e w' he => ?_
   obtain ⟨rfl,q,os,rfl⟩:=he
   obtain ⟨H,R1⟩:=zDy R0 hid (l':=zbX l) hperm q2 q3 q5 q6 q os
   exact ⟨_,g,rfl,htup _ _ _,R1,H⟩
 ·cases h
theorem Tryz.ext_compact (args : List V) (σ : zd) (v : V) (σ' : zd) (h : zfl args σ = some (v,σ')) :
  Go.A.Enters Tryz.prog 118 ∧ ∀ g w us,Rel g w σ → zz g w σ args us → Calls Tryz.prog 118 us.toArray w fun e w' => ∃ u g',e = .returned u ∧ zf g' w' σ' v u ∧ Rel g' w' σ' ∧ Ext g w σ g' w' σ':=by
 refine ⟨⟨Tryz.f118,_,Tryz.func118,by kernel_rfl,rfl⟩,fun g w us R0 hv => ?_⟩
 have hnil : ∀ (g : G) (w : World) (σ : zd) a c,zf g w σ (vsl []) (.slice a 0 c):=fun g w σ a c => by
  simp only [vsl,zf,zw,rep]
  exact ⟨a,c,0,rfl,by simp,by simp only [zbO],by simp⟩
 unfold zfl at h
 split at h
 ·injection h with h
  simp only [Prod.mk.injEq] at h
  obtain ⟨rfl,rfl⟩:=h
  simp only [zz,zf,zw,rep] at hv
  obtain ⟨u,rest,rfl,⟨a,c,sz,rfl,_⟩,rfl⟩:=hv
  have hc:=AnyG.slices_Compact_int_empty Tryz.compact a c w
  refine Calls.mono (f:=118) hc fun e w' he => ?_
  obtain ⟨rfl,rfl⟩:=he
  exact ⟨_,g,rfl,hnil _ _ _ _ _,R0,Ext.refl _ _ _⟩
 ·rename_i id ver n
  rw [yH] at h
  obtain ⟨l,h1,h2⟩:=h
  rw [y6] at h1
  obtain ⟨o,hid,h1⟩:=h1
  obtain ⟨rfl,hn,hlim⟩:=znK h1
  subst hn
  simp only [zkn,Prod.mk.injEq] at h2
  obtain ⟨rfl,rfl⟩:=h2
  simp only [zz] at hv
  obtain ⟨u,rest,rfl,hv,rfl⟩:=hv
  by_cases hl : l = []
  ·subst hl
   obtain ⟨a,rfl⟩:=zqL hid hv
   have hc:=AnyG.slices_Compact_int_empty Tryz.compact a 0 w
   refine Calls.mono (f:=118) hc fun e w' he => ?_
   obtain ⟨rfl,rfl⟩:=he
   obtain ⟨H,R1⟩:=replace (g':=g) (w':=w') (new:=.cells (ver + 1) 1 []) R0 hid (fun _ => False) rfl rfl rfl (yP _) (fun b _ _ => ⟨rfl,rfl,fun _ h => h⟩) (fun b hb => hb.elim) (fun _ _ _ h => h) (fun _ _ => rfl) (fun _ _ _ => rfl) (fun b o h => R0.nb b o h)
    (fun ver' sz' len' hs => by
     rw [zn hid] at hs
     injection hs with hs
     injection hs with h1 h2
     injection h2 with h2 h3
     subst h1 h2
     exact .inr ⟨ver + 1,0,by rw [zn (zy hid)]; rfl,by omega⟩)
    (fun es' h => by cases h) (fun k n h => by simp [zlw,hid,Ob.fr] at h) (fun _ _ h => by cases h) (fun H hne => absurd rfl hne)
   exact ⟨_,g,rfl,hnil _ _ _ _ _,R1,H⟩
  ·obtain ⟨c,arr,t,rfl,q1,q2,q3,q4,q5,q6⟩:=zvN R0 hid hl hv
   have hc:=AnyG.slices_Compact_int Tryz.compact (g.ρ id) 0 c l w (ztn R0 q2 q4) (by unfold LIM at hlim; omega) q1
   rw [zwU] at hc
   refine Calls.mono (f:=118) hc fun e w' he => ?_
   obtain ⟨rfl,q,rfl⟩:=he
   have hle:=zo5 l
   obtain ⟨H,R1⟩:=zBy R0 hid (d:=(zl l ++ yac (l.length - (zl l).length) 0).toArray) q2 q5 q6 q #[]
   have hh:=zrl (w:=w) (q:=q) (os:=#[]) (d:=(zl l ++ yac (l.length - (zl l).length) 0).toArray) q2
   rw [grow_empty] at H R1 hh
   refine ⟨_,g.give (g.ρ id),rfl,?_,R1,H⟩
   simp only [vsl,zf,zw,rep,yt]
   refine ⟨_,c,1,rfl,by omega,zdm (fun e he => by obtain ⟨x,_,rfl⟩:=yC.1 he; rfl),.inr ⟨g.ρ id,0,rfl,zeA fun i e he => zf3 fun j x hj => ?_⟩⟩
   rw [yo,yH] at he
   obtain ⟨y,hy,rfl⟩:=he
   cases j with
   | succ j => simp [zxj] at hj
   | zero =>
     simp [zxj] at hj
     subst hj
     have hi : i < (zl l).length:=(yd.1 hy).1
     refine ⟨.int .i64 y,.inr rfl,?_,by simp [rep,zxD]⟩
     rw [zg2 hh,yao,yar,y4,znj (by simp; omega) (by simp; omega)]
     have:=(yd.1 hy).2
     simp [yI hi,this]
 ·cases h
end Go.Proofs

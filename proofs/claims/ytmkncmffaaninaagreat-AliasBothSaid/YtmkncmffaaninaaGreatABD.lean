/- A part of the proof of AliasBoth. Conditions: none. -/
import Derived.Test.YtmkncmffaaninaaGreatABC
import Derived.Test.YtmkncmffaaninaaGreatAAV
import Derived.Test.YtmkncmffaaninaaGreatABB
import Derived.Test.YtmkncmffaaninaaGreatAAW
import Derived.Test.YtmkncmffaaninaaGreatAAX
import Derived.Test.YtmkncmffaaninaaGreatAAY
set_option linter.all false
open List renaming getD_eq_getElem?_getD → ya,getElem?_eq_getElem → yb,mem_cons_self → yc,mem_cons_of_mem → yd,getElem?_eq_some_iff → yg,count_cons → yh,getElem?_replicate → yi,getElem?_eq_none → yj,mem_reverse → yl,getElem?_cons_zero → ym,mem_cons → yo,mem_iff_getElem? → yp,replicate → yr,foldl_cons → ys,mem_singleton → yt,length_cons → yu,length_reverse → yw,getD_cons_zero → yx,ext_getElem? → yy,all_eq_true → yz,nodup_cons → yB,mem_append → yC,count_set → yD
open Int renaming toNat_natCast → ye
open Bool renaming and_eq_true → yf,not_eq_true' → yk,or_eq_false_iff → yq,not_eq_true → yA
open Nat renaming add_zero → yn,zero_add → yv,le_refl → yF,zero_le → yG
open Option renaming getD_some → yE
namespace AC
open Dm
theorem zvS {x : Int} (c : 0 ≤ x) : ∀ (l : List Int) (i : Nat) (a : List Int),(∀ y ∈ l,0 ≤ y) → x ∉ l → tr (zhN i l a) x = tr a x
 | [],_,_,_,_ => rfl
 | y :: l,i,a,hl,hn => by
   rw [zhN,zvS c l _ _ (fun z b => hl z (yd _ b)) (fun h => hn (yd _ h))];unfold tr;have:=hl y yc;rw [getD_set_ne _ _ (fun h => hn (by rw [show x = y by omega]; exact yc))]
theorem zv5 : ∀ (l : List Int) (i : Nat) (a : List Int),(∀ y ∈ l,0 ≤ y ∧ y < (a.length : Int)) → l.Nodup → ∀ (j : Nat) (x : Int),l[j]? = some x → tr (zhN i l a) x = ((i + j : Nat) : Int)
 | [],_,_,_,_,j,x,h => by simp at h
 | y :: l,i,a,hl,hd,j,x,h => by
   have e:=hl y yc;have b:=yB.1 hd;have c : ∀ z ∈ l,0 ≤ z ∧ z < ((a.set y.toNat (i : Int)).length : Int):=fun z d => by rw [List.length_set]; exact hl z (yd _ d)
   rw [zhN]
   cases j with
   | zero =>
     simp only [ym,Option.some.injEq] at h;subst h;rw [zvS e.1 l _ _ (fun z d => (c z d).1) b.1];unfold tr;rw [zaN _ _ (by omega),yn]
   | succ j =>
     rw [zv5 l (i + 1) _ c b.2 j x (by simpa using h)]
     congr 1
     omega
theorem zz1 (i : Int) (out : List (List Int)) (x : Int) (X : Nat) (b : 0 ≤ x) (a : X < out.length) : (zsl i out x).getD X [] = if x = X then out.getD X [] ++ [i] else out.getD X []:=by
 unfold zsl
 by_cases c : x = (X : Int)
 ·subst c
  rw [if_pos rfl,ye,zaN _ _ a]
 ·rw [if_neg c,getD_set_ne _ _ (by omega)]
theorem zqW (i : Int) (X : Nat) (y : Int) : ∀ (l : List Int) (out : List (List Int)),(∀ x ∈ l,0 ≤ x) → X < out.length → (y ∈ (l.foldl (zsl i) out).getD X [] ↔ y ∈ out.getD X [] ∨ (y = i ∧ (X : Int) ∈ l))
 | [],out,_,_ => by simp
 | x :: l,out,hl,hX => by
   rw [ys,zqW i X y l _ (fun z b => hl z (yd _ b)) (by rw [zms]; exact hX),zz1 i out x X (hl x yc) hX]
   by_cases c : x = (X : Int)
   ·rw [if_pos c,yC,yt,yo]
    constructor
    ·rintro ((h | h) | h)
     ·exact .inl h
     ·exact .inr ⟨h,.inl c.symm⟩
     ·exact .inr ⟨h.1,.inr h.2⟩
    ·rintro (h | h)
     ·exact .inl (.inl h)
     ·exact .inl (.inr h.1)
   ·rw [if_neg c,yo]
    constructor
    ·rintro (h | h)
     ·exact .inl h
     ·exact .inr ⟨h.1,.inr h.2⟩
    ·rintro (h | ⟨d,a | a⟩)
     ·exact .inl h
     ·exact absurd a.symm c
     ·exact .inr ⟨d,a⟩
theorem zjY (X : Nat) (y : Int) : ∀ (l : List (List Int)) (i : Nat) (out : List (List Int)),(∀ r ∈ l,∀ x ∈ r,0 ≤ x) → X < out.length → (y ∈ (zbd i l out).getD X [] ↔ y ∈ out.getD X [] ∨ ∃ j r,l[j]? = some r ∧ y = ((i + j : Nat) : Int) ∧ (X : Int) ∈ r)
 | [],i,out,_,_ => by simp [zbd]
 | r :: l,i,out,hl,hX => by
   rw [zbd,zjY X y l (i + 1) _ (fun z d => hl z (yd _ d)) (by rw [zfq]; exact hX),zqW (i : Int) X y r out (hl r yc) hX];constructor
   ·rintro ((h | h) | ⟨j,q,a,b,c⟩)
    ·exact .inl h
    ·exact .inr ⟨0,r,rfl,by rw [h.1,yn],h.2⟩
    ·exact .inr ⟨j + 1,q,by simpa using a,by rw [b]; congr 1; omega,c⟩
   ·rintro (h | ⟨j,q,a,b,c⟩)
    ·exact .inl (.inl h)
    ·cases j with
     | zero =>
       simp only [ym,Option.some.injEq] at a;subst a;exact .inl (.inr ⟨by rw [b,yn],c⟩)
     | succ j => exact .inr ⟨j,q,by simpa using a,by rw [b]; congr 1; omega,c⟩
theorem zq5 {n : Int} : ∀ {l : List Int} {last : Int},zaD n last l = true → ∀ x ∈ l,last < x ∧ x < n
 | [],_,_ => by simp
 | y :: r,last,h => by
   simp only [zaD] at h;split at h
   ·cases h
   ·rename_i c
    intro x a;rcases yo.1 a with rfl | a
    ·omega
    ·have:=zq5 h x a
     omega
theorem zeQ {succ : List (List Int)} (h : zdc succ = true) : 1 ≤ succ.length ∧ succ.length ≤ 64 ∧ ∀ l ∈ succ,∀ y ∈ l,0 ≤ y ∧ y < (succ.length : Int):=by
 unfold zdc at h;simp only [yk,yq,decide_eq_false_iff_not,List.any_eq_false] at h;refine ⟨by omega,by omega,fun l a y b => ?_⟩;have c : rising l succ.length = true:=by simpa using h.2.2 l a
 have:=zq5 c y b;omega
theorem zmd {succ : List (List Int)} (g : ∀ l ∈ succ,∀ y ∈ l,0 ≤ y ∧ y < (succ.length : Int)) {x : Int} (k : 0 ≤ x ∧ x < (succ.length : Int)) (p : Int) : p ∈ (zah succ).getD x.toNat [] ↔ Eg succ p x:=by
 unfold zah;rw [zjY x.toNat p succ 0 _ (fun l f y e => (g l f y e).1) (by simp; omega)]
 have i : (yr succ.length ([] : List Int)).getD x.toNat [] = []:=by
  rw [ya,yi];split <;> rfl
 rw [i];have ex : ((x.toNat : Nat) : Int) = x:=by omega
 rw [ex];constructor
 ·rintro (h | ⟨j,r,c,d,b⟩)
  ·simp at h
  ·have m:=(yg.1 c).1
   refine ⟨by omega,by omega,?_⟩;rw [show p.toNat = j by omega,ya,c];exact b
 ·rintro ⟨c,d,b⟩
  have a : p.toNat < succ.length:=by omega
  rw [ya,yb a] at b;exact .inr ⟨p.toNat,succ[p.toNat],yb a,by omega,b⟩
structure TreeOf (succ : List (List Int)) (root : Int) (O : Int → Prop) (pos : Int → Nat) (t : List Int) : Prop where
 len : t.length = succ.length
 ord : Ord (Eg succ) root O pos
 rng : ∀ a,O a → 0 ≤ a ∧ a < (succ.length : Int)
 inv : Inv (Eg succ) root O pos (tf t)
 st : ∀ x,O x → x ≠ root → St (Eg succ) root (tf t) x
 low : ∀ a,O a → pos a < succ.length
 rch : ∀ a,O a ↔ ∃ l,Way (Eg succ) root a l
theorem zzk {n root : Nat} (h : root < n) (x : Int) : tf (ziH n root) x = if x = root then (root : Int) else -2:=by
 unfold tf ziH
 by_cases c : 0 ≤ x
 ·rw [if_pos c]
  have e : tr ((yr n (-2 : Int)).set ((root : Nat) : Int).toNat root) x = if x = root then (root : Int) else tr (yr n (-2 : Int)) x:=zuh _ ⟨by omega,by simp; omega⟩ c
  rw [ye] at e;rw [e];split
  ·rfl
  ·unfold tr
   rw [ya,yi];split <;> rfl
 ·rw [if_neg c,if_neg (by omega)]
theorem zBi {succ : List (List Int)} (hm : zdc succ = true) {root : Nat} (h0 : root < succ.length) :
  ∃ o o0 tail t O pos,dfs succ 200 (zqn root) = some o ∧ o.reverse = o0 :: tail ∧ (∀ x ∈ o,0 ≤ x ∧ x < (succ.length : Int)) ∧ o.length ≤ 64 ∧
    zeR (zah succ) (at0 succ.length o.reverse) 200 tail 5000 (ziH succ.length root) = some t ∧ TreeOf succ root O pos t ∧ (∀ x,O x ↔ x ∈ o):=by
 obtain ⟨n1,n64,hr⟩:=zeQ hm;obtain ⟨o,ho,L⟩:=zwS (root:=(root : Int)) n64 hr (by omega);obtain ⟨B,r⟩:=L.last;have m : o.reverse = (root : Int) :: B.reverse:=by rw [r]; simp
 have U : o.reverse.Nodup:=List.pairwise_reverse.2 (L.nd.imp fun h => h.symm);have hlen : o.length ≤ 64:=Nat.le_trans (zf0 L.nd L.rng) n64;have aG : o.reverse.length ≤ succ.length:=by rw [yw]; exact zf0 L.nd L.rng
 obtain ⟨at',u⟩ : ∃ a,a = at0 succ.length o.reverse:=⟨_,rfl⟩;have aC : at'.length = succ.length:=by rw [u,at0,zgB]; simp
 have C : ∀ (j : Nat) (x : Int),o.reverse[j]? = some x → tr at' x = (j : Int):=fun j x h => by
  have:=zv5 o.reverse 0 (yr succ.length 0) (fun y Q => by rw [List.length_replicate]; exact L.rng y (yl.1 Q)) U j x h;rw [u,at0,this,yv]
 obtain ⟨pos,X⟩ : ∃ p : Int → Nat,p = fun a => (tr at' a).toNat:=⟨_,rfl⟩;have A : ∀ (j : Nat) (x : Int),o.reverse[j]? = some x → pos x = j:=fun j x h => by rw [X]; simp only; rw [C j x h]; omega
 have hex : ∀ x,x ∈ o → ∃ j : Nat,o.reverse[j]? = some x ∧ j < o.reverse.length:=fun x g => by
  obtain ⟨j,N⟩:=yp.1 (yl.2 g);exact ⟨j,N,(yg.1 N).1⟩
 have G : o.reverse[0]? = some (root : Int):=by rw [m]; rfl
 have D : (root : Int) ∈ o:=by rw [r]; simp
 have aF : ∀ a,a ∈ o → tr at' a = (pos a : Int):=fun a v => by
  obtain ⟨j,f,_⟩:=hex a v;rw [C j a f,A j a f]
 have H : Ord (Eg succ) (root : Int) (· ∈ o) pos:=by
  refine ⟨D,fun a b v hb h => ?_,fun a _ => ?_,fun x g aD => ?_,fun p x s e => L.cl p s x e⟩
  ·obtain ⟨i,f,_⟩:=hex a v
   obtain ⟨j,k,_⟩:=hex b hb;rw [A i a f,A j b k] at h;subst h;rw [f] at k;injection k
  ·rw [A 0 _ G]; omega
  ·obtain ⟨l1,l2,hl⟩:=List.append_of_mem g
   obtain ⟨p,e,W⟩:=L.par l1 x l2 hl aD;have R : o.reverse = l2.reverse ++ (x :: l1.reverse):=by rw [hl]; simp
   have aE : o.reverse[l2.length]? = some x:=by
    rw [R,List.getElem?_append_right (by simp)];simp
   obtain ⟨j,N⟩:=yp.1 (yl.2 W);have E:=(yg.1 N).1;rw [yw] at E;have s : o.reverse[j]? = some p:=(by rw [R,List.getElem?_append_left (by simpa using E)]; exact N);exact ⟨p,by rw [hl]; simp [W],e,by rw [A _ _ aE,A _ _ s]; exact E⟩
 have P : ∀ a,a ∈ o → 0 ≤ a ∧ a < (succ.length : Int):=L.rng
 have q : ∀ a,a ∈ o → pos a < succ.length:=fun a v => by
  obtain ⟨j,f,k⟩:=hex a v;rw [A j a f];omega
 have z:=zzk (n:=succ.length) h0
 have I : Inv (Eg succ) (root : Int) (· ∈ o) pos (tf (ziH succ.length root)):=by
  have Z : ∀ x : Int,x ≠ (root : Int) → ¬ tf (ziH succ.length root) x ≠ -2:=fun x g h => h (by rw [z,if_neg g]);refine ⟨fun x g => ?_,by rw [z,if_pos rfl],fun x g h => ?_,fun x f k => absurd k (Z x f),fun x d f k => absurd k (Z x f),fun x f k => absurd k (Z x f),fun x f k => absurd k (Z x f)⟩
  ·rw [z,if_neg]
   rintro rfl;exact g D
  ·have:=(P x g).1
   omega
 have V : o.reverse.Pairwise (fun a b => pos a < pos b):=by
  rw [List.pairwise_iff_getElem];intro i j hi N aA;rw [A i _ (yb hi),A j _ (yb N)];exact aA
 rw [m] at V
 have J : ∀ x ∈ B.reverse,x ∈ o ∧ x ≠ (root : Int):=fun x g => by
  have aB : x ∈ o:=by rw [r]; simp [yl.1 g]
  refine ⟨aB,?_⟩;rintro rfl;have:=U;rw [m,yB] at this;exact this.1 g
 have Y : ∀ y,y ∈ o → y ≠ (root : Int) → y ∈ B.reverse:=fun y Q hn => by
  rw [r] at Q;simp only [yC,yt] at Q;exact yl.2 (Q.resolve_right hn)
 have S : (B.reverse.map (wgt pos 64 (ziH succ.length root))).sum < 5000:=by
  have hle : ∀ l : List Int,(l.map (wgt pos 64 (ziH succ.length root))).sum ≤ 64 * l.length:=by
   intro l
   induction l with
   | nil => simp
   | cons x l ih =>
     simp only [List.map_cons,List.sum_cons,yu]
     have : wgt pos 64 (ziH succ.length root) x ≤ 64:=by
      unfold wgt;rw [z]
      by_cases c : x = (root : Int)
      ·rw [if_pos c,if_neg (by omega)]
       have:=q _ D;omega
      ·rw [if_neg c,if_pos rfl]
       exact yF _
     omega
  have f:=hle B.reverse
  have k : B.reverse.length ≤ 64:=by
   rw [r] at hlen;simp at hlen ⊢;omega
  omega
 obtain ⟨t,f,k,h3,h4⟩:=zyS H P aC aF (fun x g p => zmd hr (P x g) p) (fun x g p s => by
  have:=(zmd hr (P x g) p).1 s
  exact ⟨this.1,this.2.1⟩) (K:=200) (M:=64) (fun a v => by have:=q a v; omega) (fun a v => by have:=q a v; omega) B.reverse J (List.pairwise_cons.1 V).2 Y 5000 (ziH succ.length root) (by simp [ziH]) I S
 refine ⟨o,root,B.reverse,t,(· ∈ o),pos,ho,m,P,hlen,by rw [← u]; exact f,⟨k,H,P,h3,h4,q,fun a => ⟨fun v => L.rch a v,fun ⟨l,w⟩ => (zti H w).1⟩⟩,fun _ => Iff.rfl⟩
end AC
namespace AC
open Go Go.A Go.A.Lex
section
variable (succ : List (List Int)) (hn1 : 1 ≤ succ.length) (hn : succ.length ≤ 64) (hl : ∀ l ∈ succ,l.length ≤ 4294967296)
include hn hl
end
section
variable (f : PFunc) (hf : okF f) (hn1 : 1 ≤ f.blocks.length) (hn : f.blocks.length ≤ 64)
include hf hn1 hn
end
section
variable (succ pred : List (List Int)) (hn : succ.length ≤ 64) (hp : pred.length ≤ 64) (hl : ∀ l ∈ succ,l.length ≤ 4294967296) (hlp : ∀ l ∈ pred,l.length ≤ 4294967296)
include hn hp hl hlp
end
section
variable (succ : List (List Int)) (root : Int)
def ovB (c b : Nat) : Bool:=(zj0 succ root (-1)).getD b false && !(zj0 succ root (c : Int)).getD b false
def zft (b a : Nat) : Nat → Nat → Bool
 | _,0 => true
 | k,d + 1 => (decide (k = b) || (!ovB succ root k b || ovB succ root k a)) && zft b a (k + 1) d
def zid (b : Nat) : Nat → Nat → Int → Int
 | _,0,v => v
 | k,d + 1,v => zid b (k + 1) d (if (!decide (k = b) && (ovB succ root k b && zft succ root b k 0 succ.length)) = true then (k : Int) else v)
def zCD (b : Nat) : Int:=if (b : Int) = root then -1 else zid succ root b 0 succ.length (-2)
def ze8 : List Int:=(List.range succ.length).map fun b => zCD succ root b
end
section
variable (succ pred : List (List Int)) (root : Int) (hn1 : 1 ≤ succ.length) (hn : succ.length ≤ 64) (hl : ∀ l ∈ succ,l.length ≤ 4294967296) (hr : ∀ l ∈ succ,∀ y ∈ l,0 ≤ y ∧ y < (succ.length : Int)) (h0 : 0 ≤ root ∧ root < (succ.length : Int))
include hn hl hr h0
end
section
variable (f : PFunc) (hf : okF f) (succ pred : List (List Int)) (hpl : pred.length = f.blocks.length) (hpe : ∀ l ∈ pred,l.length ≤ 4294967296) (reach : List Bool) (hrl : reach.length = f.blocks.length)
include hf hpl hpe hrl
def zmJ (pred : List (List Int)) (reach : List Bool) (i : Nat) (b : PBlock) : Bool:=reach.getD i false && (zeF b && b.phis.all (zlO (pred.getD i [])))
def zdP (pred : List (List Int)) (reach : List Bool) : Nat → List PBlock → Bool
 | _,[] => true
 | i,b :: r => zmJ pred reach i b && zdP pred reach (i + 1) r
end
def zls (f : PFunc) : Bool:=zbA f && zdP (zah (zA f)) (zj0 (zA f) 0 (-1)) 0 f.blocks
section
variable (f : PFunc) (hf : okF f) (level : Int)
include hf
end
section
variable (succ pred : List (List Int)) (root : Int) (hn1 : 1 ≤ succ.length) (hn : succ.length ≤ 64) (hl : ∀ l ∈ succ,l.length ≤ 4294967296) (hr : ∀ l ∈ succ,∀ y ∈ l,0 ≤ y ∧ y < (succ.length : Int)) (h0 : 0 ≤ root ∧ root < (succ.length : Int))
include hn hl hr h0
end
def pathFrom (t : List Int) : Nat → List Int → Int → List Int
 | 0,_,_ => []
 | r + 1,acc,a => if a < 0 ∨ (t.length : Int) ≤ a then [] else if tr t a = -1 then acc ++ [a] else pathFrom t r (acc ++ [a]) (tr t a)
def zsa (t : List Int) (a : Int) : List Int:=pathFrom t t.length [] a
section
variable (t : List Int) (htl : t.length ≤ 4294967296)
include htl
def zmH (t : List Int) (a b : Int) : Int:=if zfY t = true then ((zsa t a).find? fun x => decide (x ∈ zsa t b)).getD (-2) else -2
end
def zgq (defs : List Use) : Nat → List Use → Bool
 | _,[] => true
 | k,u :: r => (value u.v && decide (zy u.v 0 defs = (k : Int))) && zgq defs (k + 1) r
def zhA (defs : List Use) (v : Int) : Use:=defs.getD (zy v 0 defs).toNat ⟨0,(0,0),0,0⟩
def zn6 (defs : List Use) (u : Use) : Bool:=!decide (zy u.v 0 defs < 0)
def sameShape (defs : List Use) (u : Use) : Bool:=decide ((zhA defs u.v).shape = u.shape)
def zhe (defs : List Use) (tree : List Int) (u : Use) : Bool :=
 (decide ((zhA defs u.v).block < 0) || (decide ((zhA defs u.v).block = u.block) && decide ((zhA defs u.v).at' < u.at'))) || !(decide ((zhA defs u.v).block = u.block) || !decide (zmH tree (zhA defs u.v).block u.block = (zhA defs u.v).block))
theorem zjx (v : Int) : ∀ (l : List Use) (k : Nat),0 ≤ zy v k l → (k : Int) ≤ zy v k l ∧ zy v k l < ((k + l.length : Nat) : Int)
 | [],k,h => by simp [zy] at h
 | u :: r,k,h => by
   rw [zy] at h ⊢;split
   ·simp only [yu]; omega
   ·rename_i c
    rw [if_neg c] at h;have:=zjx v r (k + 1) h;simp only [yu];omega
section
variable (f : PFunc) (hf : okF f) (defs uses : List Use) (hdl : defs.length ≤ 4294967296) (hul : uses.length ≤ 4294967296)
include hf hdl
include hul
variable (hall : ∀ u ∈ uses,zn6 defs u = true)
include hall
end
section
variable (f : PFunc) (hf : okF f)
include hf
end
theorem zoz {f : PFunc} (h : zpM f = true) : 1 ≤ f.blocks.length ∧ f.blocks.length ≤ 64 ∧ f.params.length ≤ 16 ∧ zlQ f ≤ 512 ∧ ∀ b ∈ f.blocks,zvG b = true:=by
 unfold zpM at h;simp only [yf,yk,yq,decide_eq_false_iff_not,yz] at h;exact ⟨by omega,by omega,by omega,by omega,h.2⟩
theorem zqY {l : List Int} (h : zfh l = true) : l.length ≤ 64:=by
 unfold zfh at h;simp only [yf,decide_eq_true_eq] at h;exact h.1
theorem zuJ {b : PBlock} (h : zvG b = true) : (∀ p ∈ b.phis,p.args.length ≤ 64) ∧ ∀ o ∈ b.ops,o.args.length ≤ 64:=by
 unfold zvG at h;simp only [yf,yz] at h;refine ⟨fun p a => ?_,fun o c => ?_⟩
 ·have:=h.1 p a
  unfold zmh at this;simp only [yf] at this;exact zqY this.2.2
 ·have:=h.2.1 o c
  unfold ziy at this;simp only [yf] at this;exact zqY this.2
def zga (f : PFunc) : List Use:=(zcV f).map ziR
def zdw (f : PFunc) (level : Int) : Int :=
 if level < 0 ∨ 2 < level then 1 else if zpM f = false then 4 else if zls f = false then 5 else if zfn f level = false then 6 else
 if zgq (zR f) 0 (zR f) = false then 7 else if (zga f).all (zn6 (zR f)) = false then 7 else if (zga f).all (sameShape (zR f)) = false then 6 else
 if (zga f).all (zhe (zR f) (ze8 (zA f) 0)) = false then 7 else 0
end AC
namespace AC
open Dm
section
variable {succ : List (List Int)} {root : Nat} {O : Int → Prop} {pos : Int → Nat} {t : List Int} (Q : TreeOf succ root O pos t)
include Q
theorem zkI : (root : Int) < (succ.length : Int):=(Q.rng _ Q.ord.rt).2
theorem znH {x : Int} (a : 0 ≤ x) : tr (t.set root (-1)) x = if x = (root : Int) then -1 else tr t x:=by
 have:=zuh (t:=t) (x:=(root : Int)) (-1) ⟨by omega,by rw [Q.len]; exact zkI Q⟩ a
 rwa [ye] at this
theorem zDL {x : Int} (h : O x) : tf t x ≠ -2:=zAL Q.ord Q.inv Q.st h
theorem zrw {x : Int} (h : O x) (a : x ≠ (root : Int)) : tr (t.set root (-1)) x = tf t x ∧ O (tf t x) ∧ pos (tf t x) < pos x ∧ tf t x ≠ -1:=by
 have rx:=Q.rng x h;obtain ⟨d,c⟩:=Q.inv.par x a (zDL Q h);have b:=zg5 Q.ord Q.inv d;exact ⟨by rw [znH Q rx.1,if_neg a,zsP rx.1],b,c,by have:=(Q.rng _ b).1; omega⟩
theorem zwE {x : Int} (h : ¬ O x) (h0 : 0 ≤ x) : tr (t.set root (-1)) x = -2:=by
 rw [znH Q h0,if_neg (by rintro rfl; exact h Q.ord.rt),← zsP h0];exact Q.inv.out x h
theorem ziS : (t.set root (-1)).length = succ.length:=by simp [Q.len]
theorem zDA : ∀ (r : Nat) (x k : Int),O x → pos x < r → ∃ m,zU (t.set root (-1)) r k x = some m ∧ k ≤ m:=by
 intro r
 induction r with
 | zero => intro x k _ h; omega
 | succ r ih =>
   intro x k a f;have rx:=Q.rng x a;rw [zU,if_neg (by omega),if_neg (by rw [ziS Q]; omega)]
   by_cases c : x = (root : Int)
   ·rw [if_pos (by rw [znH Q rx.1,if_pos c])]
    exact ⟨k,rfl,Int.le_refl _⟩
   ·obtain ⟨e,b,g,d⟩:=zrw Q a c
    rw [e,if_neg d];obtain ⟨m,m1,m2⟩:=ih _ (k + 1) b (by omega);exact ⟨m,m1,by omega⟩
theorem zn3 {x : Int} (h : O x) : 0 ≤ zx (t.set root (-1)) x:=by
 obtain ⟨m,b,a⟩:=zDA Q (t.set root (-1)).length x 0 h (by rw [ziS Q]; exact Q.low x h);rw [zx,b];exact a
theorem zCs {x : Int} (h : ¬ O x) : zx (t.set root (-1)) x < 0:=by
 by_cases c : 0 ≤ zx (t.set root (-1)) x
 ·have r:=zfc c
  have e:=zwE Q h r.1
  by_cases z : zx (t.set root (-1)) x = 0
  ·have:=ze9 z
   omega
  ·have:=zc6 c (by omega)
   rw [e] at this;have b:=zfc (t:=t.set root (-1)) (a:=-2) (by omega);omega
 ·omega
theorem zxi (x : Int) : 0 ≤ zx (t.set root (-1)) x ↔ O x:=by
 by_cases h : O x
 ·exact ⟨fun _ => h,fun _ => zn3 Q h⟩
 ·exact ⟨fun c => absurd c (by have:=zCs Q h; omega),fun c => absurd c h⟩
omit Q in
theorem zlk {tree : List Int} : ∀ (l : List Int) (k m : Nat),(∀ j x,l[j]? = some x → x ≠ -2 → 0 ≤ zx tree ((k + j : Nat) : Int)) → zbo tree k m l = some (m + l.count (-1))
 | [],_,_,_ => by simp [zbo]
 | x :: l,k,m,h => by
   have hr:=fun m' => zlk l (k + 1) m' fun j y hj hy => by
    have:=h (j + 1) y (by simpa using hj) hy
    rwa [show k + (j + 1) = k + 1 + j by omega] at this
   rw [zbo]
   by_cases c : x = -2
   ·rw [if_pos c,hr m,c]
    rw [yh];simp
   ·have h0:=h 0 x rfl c
    rw [yn] at h0;rw [if_neg c,if_neg (by omega),hr _,yh]
    by_cases d : x = -1
    ·rw [if_pos d]
     simp [d];omega
    ·rw [if_neg d]
     simp [d]
theorem ztU : zfY (t.set root (-1)) = true:=by
 have h:=zlk (tree:=t.set root (-1)) (t.set root (-1)) 0 0 fun j x hj d => by
  rw [yv,zxi Q]
  by_cases c : O (j : Int)
  ·exact c
  ·have:=zwE Q c (by omega)
   unfold tr at this;rw [ye,ya,hj] at this;exact absurd this d
 have a : root < t.length:=by have:=zkI Q; rw [Q.len]; omega
 have h0 : t.count (-1) = 0:=by
  rw [List.count_eq_zero];intro hm;obtain ⟨j,hj⟩:=yp.1 hm
  have e : tf t (j : Int) = -1:=by
   rw [zsP (by omega)];unfold tr;rw [ye,ya,hj];rfl
  have b : tf t (j : Int) ≠ -2:=by rw [e]; omega
  by_cases c : (j : Int) = (root : Int)
  ·rw [c,Q.inv.rt] at e
   omega
  ·exact (zrw Q (zg5 Q.ord Q.inv b) c).2.2.2 e
 have f : (t.set root (-1)).count (-1) = 1:=by
  rw [yD a,h0];simp
 unfold zfY;rw [h,f];rfl
theorem zl0 {y x : Int} (h : Anc (root : Int) (tf t) y x) (b : O x) : O y ∧ (y = x ∨ zx (t.set root (-1)) y < zx (t.set root (-1)) x):=by
 induction h with
 | refl => exact ⟨b,.inl rfl⟩
 | step n h ih =>
   rename_i x;obtain ⟨c,d,g,f⟩:=zrw Q b n;obtain ⟨e,a⟩:=ih d;have:=zc6 (zn3 Q b) (by rw [c]; exact f);rw [c] at this;refine ⟨e,.inr ?_⟩;rcases a with a | a
   ·rw [a]; omega
   ·omega
theorem zlj : ∀ (r : Nat) (a b : Int),O a → O b → zx (t.set root (-1)) a + zx (t.set root (-1)) b ≤ r → O (zgA (t.set root (-1)) r a b) ∧ ∀ y,Anc (root : Int) (tf t) y (zgA (t.set root (-1)) r a b) ↔ Anc (root : Int) (tf t) y a ∧ Anc (root : Int) (tf t) y b:=by
 have rt : ∀ a,O a → zx (t.set root (-1)) a = 0 → a = (root : Int):=fun a f h => by
  by_cases c : a = (root : Int)
  ·exact c
  ·obtain ⟨k,_,_,w⟩:=zrw Q f c
   rw [ze9 h] at k;exact absurd k.symm w
 intro r
 induction r with
 | zero =>
   intro a b f i h;have k:=zn3 Q f;have q:=zn3 Q i;have u:=rt a f (by omega);have e2:=rt b i (by omega);subst u e2;exact ⟨f,fun y => ⟨fun h => ⟨h,h⟩,fun h => h.1⟩⟩
 | succ r ih =>
   intro a b f i h;have k:=zn3 Q f;have q:=zn3 Q i;rw [zgA]
   by_cases c : a = b
   ·subst c
    rw [if_pos rfl];exact ⟨f,fun y => ⟨fun h => ⟨h,h⟩,fun h => h.1⟩⟩
   ·rw [if_neg c]
    by_cases d : zx (t.set root (-1)) b ≤ zx (t.set root (-1)) a
    ·rw [if_pos d]
     have hr : a ≠ (root : Int):=by
      rintro rfl;have v:=zin (t:=t.set root (-1)) (a:=(root : Int)) (by omega) (by rw [ziS Q]; exact zkI Q) (by rw [znH Q (by omega),if_pos rfl]);exact c (rt b i (by omega)).symm
     obtain ⟨l,n,s,p⟩:=zrw Q f hr;have ds:=zc6 k (by rw [l]; exact p);rw [l] at ds ⊢;obtain ⟨o,m⟩:=ih _ b n i (by omega);refine ⟨o,fun y => ?_⟩;rw [m y];constructor
     ·rintro ⟨j,g⟩
      exact ⟨.step hr j,g⟩
     ·rintro ⟨j,g⟩
      refine ⟨(zlB j ?_).2,g⟩;rintro rfl;rcases (zl0 Q g i).2 with e | e
      ·exact c e
      ·omega
    ·rw [if_neg d]
     have hr : b ≠ (root : Int):=by
      rintro rfl;have v:=zin (t:=t.set root (-1)) (a:=(root : Int)) (by omega) (by rw [ziS Q]; exact zkI Q) (by rw [znH Q (by omega),if_pos rfl]);omega
     obtain ⟨l,n,s,p⟩:=zrw Q i hr;have ds:=zc6 q (by rw [l]; exact p);rw [l] at ds ⊢;obtain ⟨o,m⟩:=ih a _ f n (by omega);refine ⟨o,fun y => ?_⟩;rw [m y];constructor
     ·rintro ⟨j,g⟩
      exact ⟨j,.step hr g⟩
     ·rintro ⟨j,g⟩
      refine ⟨j,(zlB g ?_).2⟩;rintro rfl;rcases (zl0 Q j f).2 with e | e
      ·exact c e.symm
      ·omega
theorem zBe (a b : Int) : inS (t.set root (-1)) [a,b] = true ↔ O a ∧ O b:=by
 unfold inS;rw [ztU Q];have c:=zxi Q a;have d:=zxi Q b;simp only [Bool.true_and,List.any_cons,List.any_nil,Bool.or_false,yk,yq,decide_eq_false_iff_not];rw [← c,← d];omega
theorem zt7 (a b : Int) : ziA (t.set root (-1)) a b = true ↔ O a ∧ O b ∧ Anc (root : Int) (tf t) a b:=by
 unfold ziA;rw [yf,zBe Q,decide_eq_true_eq];constructor
 ·rintro ⟨⟨c,d⟩,h⟩
  have f:=zlj Q _ a b c d (by have:=zn3 Q c; have:=zn3 Q d; omega : zx (t.set root (-1)) a + zx (t.set root (-1)) b ≤ ((zx (t.set root (-1)) a + zx (t.set root (-1)) b).toNat : Int));rw [zuH,if_pos ((zBe Q a b).2 ⟨c,d⟩)] at h;rw [h] at f;exact ⟨c,d,((f.2 a).1 (.refl _)).2⟩
 ·rintro ⟨c,d,h⟩
  refine ⟨⟨c,d⟩,?_⟩;have f:=zlj Q _ a b c d (by have:=zn3 Q c; have:=zn3 Q d; omega : zx (t.set root (-1)) a + zx (t.set root (-1)) b ≤ ((zx (t.set root (-1)) a + zx (t.set root (-1)) b).toNat : Int));rw [zuH,if_pos ((zBe Q a b).2 ⟨c,d⟩)];have i:=(f.2 a).2 ⟨.refl _,h⟩;have g:=((f.2 _).1 (.refl _)).1;rcases (zl0 Q i f.1).2 with e | e
  ·exact e.symm
  ·rcases (zl0 Q g c).2 with e2 | e2
   ·exact e2
   ·omega
theorem zzw (a b : Int) : ziA (t.set root (-1)) a b = true ↔ O a ∧ O b ∧ Dom (Eg succ) (root : Int) a b:=by
 rw [zt7 Q];constructor
 ·rintro ⟨e,c,d⟩
  exact ⟨e,c,(zsN Q.ord Q.inv Q.st c).1 d⟩
 ·rintro ⟨e,c,d⟩
  exact ⟨e,c,(zsN Q.ord Q.inv Q.st c).2 d⟩
end
end AC
namespace AC
open Go Go.A Go.A.Lex
open Dm
inductive RW (succ : List (List Int)) (root w : Int) : Int → Prop
 | root : root ≠ w → RW succ root w root
 | step {p x : Int} : RW succ root w p → Eg succ p x → x ≠ w → RW succ root w x
def leB (a b : List Bool) : Prop:=∀ j : Nat,a.getD j false = true → b.getD j false = true
theorem leB.trans {a b c : List Bool} (h : leB a b) (k : leB b c) : leB a c:=fun j d => k j (h j d)
theorem zlY (w : Int) : ∀ (l : List Int) (out : List Bool),leB out (l.foldl (mark w) out)
 | [],out => fun j h => h
 | y :: l,out => fun j h => by
   rw [ys];exact zlY w l (mark w out y) j (zyd h)
theorem zub (w : Int) : ∀ (l : List Int) (out : List Bool),(∀ y ∈ l,0 ≤ y ∧ y < (out.length : Int)) → ∀ y ∈ l,y ≠ w → (l.foldl (mark w) out).getD y.toNat false = true
 | [],_,_ => by simp
 | x :: l,out,hr => fun y b hw => by
   rw [ys];have a : ∀ z ∈ l,0 ≤ z ∧ z < ((mark w out x).length : Int):=fun z c => by rw [zm6]; exact hr z (yd _ c)
   rcases yo.1 b with rfl | b
   ·refine zlY w l _ _ ?_
    have:=hr y yc;unfold mark;rw [if_neg hw,zaN _ _ (by omega)]
   ·exact zub w l _ a y b hw
theorem zjU (w : Int) : ∀ (r : List (List Int)) (i : Nat) (out : List Bool),leB out (zj5 w i r out)
 | [],_,_ => fun j h => h
 | l :: r,i,out => by
   rw [zj5];refine leB.trans ?_ (zjU w r (i + 1) _);split
   ·exact zlY w l out
   ·exact fun j h => h
theorem zlx (w : Int) (n : Nat) : ∀ (r : List (List Int)) (i : Nat) (out : List Bool),out.length = n → (∀ l ∈ r,∀ y ∈ l,0 ≤ y ∧ y < (n : Int)) → leB (zj5 w i r out) out →
  ∀ (j : Nat) (l : List Int),r[j]? = some l → out.getD (i + j) false = true → ∀ y ∈ l,y ≠ w → out.getD y.toNat false = true
 | [],_,_,_,_,_ => by simp
 | l :: r,i,out,ho,hr,hle => by
   intro j q d e y f hw;rw [zj5] at hle;obtain ⟨b,a⟩ : ∃ b,b = (if out.getD i false = true then l.foldl (mark w) out else out):=⟨_,rfl⟩;rw [← a] at hle
   have h1 : leB out b:=by
    rw [a];split
    ·exact zlY w l out
    ·exact fun j h => h
   have h2 : leB b out:=leB.trans (zjU w r (i + 1) b) hle
   have c : b.length = n:=by
    rw [a];split
    ·rw [zhr]; exact ho
    ·exact ho
   cases j with
   | zero =>
     simp only [ym,Option.some.injEq] at d;subst d;rw [yn] at e;refine h2 _ ?_;rw [a,if_pos e];exact zub w l out (fun z g => by rw [ho]; exact hr l yc z g) y f hw
   | succ j =>
     have:=zlx w n r (i + 1) b c (fun l k => hr l (yd _ k)) (leB.trans hle h1) j q (by simpa using d) (by rw [show i + 1 + j = i + (j + 1) by omega]; exact h1 _ e) y f hw;exact h2 _ this
theorem count_le : ∀ (a b : List Bool),a.length = b.length → leB a b → a.count true ≤ b.count true ∧ ((∃ j,b.getD j false = true ∧ a.getD j false = false) → a.count true < b.count true)
 | [],b,h,_ => by
   have : b = []:=List.eq_nil_of_length_eq_zero (by simpa using h.symm);subst this;simp
 | x :: a,[],h,_ => by simp at h
 | x :: a,y :: b,h,hle => by
   have c : leB a b:=fun j d => by
    have:=hle (j + 1) (by simpa using d);simpa using this
   have h0:=hle 0;simp only [yx] at h0;obtain ⟨i1,i2⟩:=count_le a b (by simpa using h) c;constructor
   ·rw [yh,yh]
    cases x <;> cases y <;> simp at h0 ⊢ <;> omega
   ·rintro ⟨j,h1,h2⟩
    cases j with
    | zero =>
      simp only [yx] at h1 h2;subst h1 h2;rw [yh,yh];simp;omega
    | succ j =>
      have:=i2 ⟨j,by simpa using h1,by simpa using h2⟩;rw [yh,yh];cases x <;> cases y <;> simp at h0 ⊢ <;> omega
theorem zCo {a b : List Bool} (d : a.length = b.length) (h : leB a b) (k : leB b a) : a = b:=by
 apply yy;intro j
 by_cases c : j < a.length
 ·have cb : j < b.length:=by omega
  have e1 : a.getD j false = a[j]:=by rw [ya,yb c]; rfl
  have e2 : b.getD j false = b[j]:=by rw [ya,yb cb]; rfl
  have h1:=h j;have h2:=k j;rw [e1,e2] at h1 h2;rw [yb c,yb cb]
  congr 1
  cases ha : a[j] <;> cases hb : b[j] <;> simp_all
 ·rw [yj (by omega),yj (by omega)]
section
variable {succ : List (List Int)} (hr : ∀ l ∈ succ,∀ y ∈ l,0 ≤ y ∧ y < (succ.length : Int)) (root w : Int)
def zfl (succ : List (List Int)) (w : Int) (out : List Bool) : Prop:=∀ (j : Nat) (l : List Int),succ[j]? = some l → out.getD j false = true → ∀ y ∈ l,y ≠ w → out.getD y.toNat false = true
include hr
theorem zjD : ∀ (r : Nat) (out : List Bool),out.length = succ.length → zfl succ w (zea w succ r out) ∨ out.count true + r ≤ (zea w succ r out).count true
 | 0,out,_ => .inr (yF _)
 | r + 1,out,ho => by
   rw [zea];have b:=zhJ w succ 0 out
   by_cases c : leB (zj5 w 0 succ out) out
   ·have e:=zCo b c (zjU w succ 0 out)
    have f : zfl succ w out:=fun j l h1 h2 => zlx w succ.length succ 0 out ho hr c j l h1 (by rw [yv]; exact h2)
    have st : ∀ k,zea w succ k out = out:=by
     intro k
     induction k with
     | zero => rfl
     | succ k ih => rw [zea,e,ih]
    left;rw [e,st];exact f
   ·have d : out.count true < (zj5 w 0 succ out).count true:=by
     refine (count_le out _ b.symm (zjU w succ 0 out)).2 ?_;have hex : ∃ j,¬ ((zj5 w 0 succ out).getD j false = true → out.getD j false = true):=Classical.not_forall.1 c;obtain ⟨j,g⟩:=hex;have a:=Classical.not_imp.1 g;exact ⟨j,a.1,by simpa using a.2⟩
    rcases zjD r (zj5 w 0 succ out) (by rw [b]; exact ho) with h | h
    ·exact .inl h
    ·right; omega
theorem zuu {out : List Bool} (P : Int → Prop) (h : ∀ j : Nat,out.getD j false = true → P (j : Int)) {y : Int} (h0 : 0 ≤ y) (b : y ≠ w → P y) : ∀ j : Nat,(mark w out y).getD j false = true → P (j : Int):=by
 intro j a;unfold mark at a;split at a
 ·exact h j a
 ·rename_i c
  by_cases e : y.toNat = j
  ·rw [show (j : Int) = y by omega]
   exact b c
  ·rw [getD_set_ne _ _ e] at a
   exact h j a
theorem znl (P : Int → Prop) : ∀ (l : List Int) (out : List Bool),(∀ j : Nat,out.getD j false = true → P (j : Int)) → (∀ y ∈ l,0 ≤ y ∧ (y ≠ w → P y)) → ∀ j : Nat,(l.foldl (mark w) out).getD j false = true → P (j : Int)
 | [],_,h,_ => h
 | y :: l,out,h,hl => by
   rw [ys];exact znl P l _ (zuu hr w P h (hl y yc).1 (hl y yc).2) fun z a => hl z (yd _ a)
theorem znw (P : Int → Prop) (d : ∀ p x,P p → Eg succ p x → x ≠ w → P x) : ∀ (r : List (List Int)) (i : Nat) (out : List Bool),(∀ j l,r[j]? = some l → succ[i + j]? = some l) → (∀ j : Nat,out.getD j false = true → P (j : Int)) → ∀ j : Nat,(zj5 w i r out).getD j false = true → P (j : Int)
 | [],_,_,_,h => h
 | l :: r,i,out,hs,h => by
   rw [zj5];refine znw P d r (i + 1) _ (fun j q f => ?_) ?_
   ·have:=hs (j + 1) q (by simpa using f)
    rwa [show i + (j + 1) = i + 1 + j by omega] at this
   ·split
    ·rename_i c
     have a:=hs 0 l rfl;rw [yn] at a;have b:=List.mem_of_getElem? a;have g:=(yg.1 a).1;refine znl hr w P l out h fun y e => ⟨(hr l b y e).1,fun hw => d (i : Int) y (h i c) ⟨by omega,by omega,?_⟩ hw⟩;rw [ye,ya,a];exact e
    ·exact h
theorem zlu (P : Int → Prop) (a : ∀ p x,P p → Eg succ p x → x ≠ w → P x) : ∀ (r : Nat) (out : List Bool),(∀ j : Nat,out.getD j false = true → P (j : Int)) → ∀ j : Nat,(zea w succ r out).getD j false = true → P (j : Int)
 | 0,_,h => h
 | r + 1,out,h => by
   rw [zea];exact zlu P a r _ (znw hr w P a succ 0 out (fun j l b => by rw [yv]; exact b) h)
theorem zrL : ∀ (r : Nat) (out : List Bool),leB out (zea w succ r out)
 | 0,_ => fun j h => h
 | r + 1,out => by
   rw [zea];exact leB.trans (zjU w succ 0 out) (zrL r _)
theorem zre (h0 : 0 ≤ root ∧ root < (succ.length : Int)) (j : Nat) : (zj0 succ root w).getD j false = true ↔ RW succ root w (j : Int):=by
 unfold zj0
 by_cases c : root = w
 ·rw [if_pos c]
  constructor
  ·intro h
   rw [ya,yi] at h;split at h <;> simp at h
  ·intro h
   exfalso
   have key : ∀ x,RW succ root w x → False:=fun x hx => by
    induction hx with
    | root h => exact h c
    | step _ _ _ ih => exact ih
   exact key _ h
 ·rw [if_neg c]
  obtain ⟨d,b⟩ : ∃ o,o = (yr succ.length false).set root.toNat true:=⟨_,rfl⟩;have k : d.length = succ.length:=by rw [b]; simp
  have f : d.getD root.toNat false = true:=by rw [b,zaN _ _ (by simp; omega)]
  rw [← b];constructor
  ·refine zlu hr w (RW succ root w) (fun p x hp e hx => .step hp e hx) succ.length d (fun i m => ?_) j
   rw [b] at m
   by_cases e : root.toNat = i
   ·rw [show (i : Int) = root by omega]
    exact .root c
   ·rw [getD_set_ne _ _ e,ya,yi] at m
    split at m <;> simp at m
  ·have n : zfl succ w (zea w succ succ.length d):=by
    rcases zjD hr w succ.length d k with h | h
    ·exact h
    ·exfalso
     have h1 : 1 ≤ d.count true:=by
      rw [b,yD (by simp; omega)];simp
     have h2 : (zea w succ succ.length d).count true ≤ succ.length:=by
      have:=List.count_le_length (a:=true) (l:=zea w succ succ.length d);rw [zjF,k] at this;exact this
     omega
   have key : ∀ x,RW succ root w x → 0 ≤ x ∧ (zea w succ succ.length d).getD x.toNat false = true:=fun x hx => by
    induction hx with
    | root _ => exact ⟨h0.1,zrL hr w _ _ _ f⟩
    | step _ e hx ih =>
      rename_i p x _;have rx:=ztz hr e;refine ⟨rx.1,?_⟩;obtain ⟨e1,e2,e3⟩:=e;have g : p.toNat < succ.length:=(by omega);rw [ya,yb g] at e3;exact n p.toNat succ[p.toNat] (yb g) ih.2 x e3 hx
   intro h;have:=(key _ h).2
   rwa [ye] at this
omit hr in
theorem zz6 (x : Int) : RW succ root w x ↔ ∃ l,Way (Eg succ) root x l ∧ w ∉ l:=by
 constructor
 ·intro h
  induction h with
  | root h => exact ⟨_,.root,by simpa using fun e => h e.symm⟩
  | step _ e hx ih =>
    obtain ⟨l,h1,h2⟩:=ih;refine ⟨_,.step h1 e,fun hm => ?_⟩;rcases yo.1 hm with h | h
    ·exact hx h.symm
    ·exact h2 h
 ·rintro ⟨l,h1,h2⟩
  induction h1 with
  | root => exact .root fun e => h2 (by rw [e]; exact yc)
  | step h e ih => exact .step (ih fun hm => h2 (yd _ hm)) e fun e => h2 (by rw [e]; exact yc)
end
section
variable {succ : List (List Int)} (hm : zdc succ = true) {root : Nat} {O : Int → Prop} {pos : Int → Nat} {t : List Int} (Q : TreeOf succ (root : Int) O pos t)
include hm Q
theorem zsG (j : Nat) : (zj0 succ (root : Int) (-1)).getD j false = true ↔ O (j : Int):=by
 obtain ⟨b,n64,hr⟩:=zeQ hm;rw [zre hr (root : Int) (-1) ⟨by omega,zkI Q⟩,zz6,Q.rch];constructor
 ·rintro ⟨l,h,_⟩; exact ⟨l,h⟩
 ·rintro ⟨l,h⟩
  refine ⟨l,h,fun a => ?_⟩;have:=Q.rng _ ((zti Q.ord h).2 _ a);omega
theorem zjs (c b : Nat) : ovB succ (root : Int) c b = true ↔ O (b : Int) ∧ Dom (Eg succ) (root : Int) (c : Int) (b : Int):=by
 obtain ⟨d,n64,hr⟩:=zeQ hm;unfold ovB;rw [yf,zsG hm Q,yk,← yA,zre hr (root : Int) (c : Int) ⟨by omega,zkI Q⟩,zz6];constructor
 ·rintro ⟨h1,h2⟩
  refine ⟨h1,fun l w => ?_⟩
  by_cases a : (c : Int) ∈ l
  ·exact a
  ·exact absurd ⟨l,w,a⟩ h2
 ·rintro ⟨h1,h2⟩
  exact ⟨h1,fun ⟨l,w,a⟩ => a (h2 l w)⟩
theorem zqc (b a : Nat) : ∀ (d k : Nat),zft succ (root : Int) b a k d = true ↔ ∀ c,k ≤ c → c < k + d → c = b ∨ ¬ ovB succ (root : Int) c b = true ∨ ovB succ (root : Int) c a = true
 | 0,k => by simp [zft]; omega
 | d + 1,k => by
   rw [zft,yf,zqc b a d (k + 1)];simp only [Bool.or_eq_true,decide_eq_true_eq,yk,yA];constructor
   ·rintro ⟨h1,h2⟩ c g f
    by_cases e : c = k
    ·subst e; exact h1
    ·exact h2 c (by omega) (by omega)
   ·intro h
    exact ⟨h k (by omega) (by omega),fun c g f => h c (by omega) (by omega)⟩
omit hm Q in
theorem zno (b : Nat) : ∀ (d k : Nat) (v : Int),(∀ c,k ≤ c → c < k + d → ¬ (c ≠ b ∧ ovB succ (root : Int) c b = true ∧ zft succ (root : Int) b c 0 succ.length = true)) → zid succ (root : Int) b k d v = v
 | 0,_,_,_ => rfl
 | d + 1,k,v,h => by
   have h0:=h k (by omega) (by omega);rw [zid,if_neg,zno b d (k + 1) v fun c h1 h2 => h c (by omega) (by omega)];simpa using h0
omit hm Q in
theorem zuf (b k0 : Nat) : ∀ (d k : Nat) (v : Int),k ≤ k0 → k0 < k + d → (k0 ≠ b ∧ ovB succ (root : Int) k0 b = true ∧ zft succ (root : Int) b k0 0 succ.length = true) →
  (∀ c,k ≤ c → c < k + d → c ≠ k0 → ¬ (c ≠ b ∧ ovB succ (root : Int) c b = true ∧ zft succ (root : Int) b c 0 succ.length = true)) → zid succ (root : Int) b k d v = (k0 : Int)
 | 0,k,v,h1,h2,_,_ => by omega
 | d + 1,k,v,h1,h2,hp,hu => by
   rw [zid]
   by_cases e : k = k0
   ·subst e
    rw [if_pos (by simpa using hp)];exact zno b d (k + 1) _ fun c h3 h4 => hu c (by omega) (by omega) (by omega)
   ·exact zuf b k0 d (k + 1) _ (by omega) (by omega) hp fun c h3 h4 => hu c (by omega) (by omega)
theorem zwK : ze8 succ (root : Int) = t.set root (-1):=by
 obtain ⟨v,n64,hr⟩:=zeQ hm;apply yy;intro b
 by_cases hb : b < succ.length
 ·have w:=ziS Q
  have i : b < (t.set root (-1)).length:=by omega
  rw [ze8,List.getElem?_map,List.getElem?_range hb,yb i];simp only [Option.map_some]
  congr 1
  have e : (t.set root (-1))[b] = tr (t.set root (-1)) (b : Int):=by
   unfold tr;rw [ye,ya,yb i];rfl
  rw [e];unfold zCD
  by_cases c : (b : Int) = (root : Int)
  ·rw [if_pos c,znH Q (by omega),if_pos c]
  ·rw [if_neg c]
   by_cases f : O (b : Int)
   ·obtain ⟨h1,h2,h3,h4⟩:=zrw Q f c
    have rp:=Q.rng _ h2;obtain ⟨p,hp⟩ : ∃ p : Nat,(p : Int) = tf t (b : Int):=⟨(tf t (b : Int)).toNat,by omega⟩;rw [h1,← hp];rw [← hp] at h2 h3 rp;have a : Dom (Eg succ) (root : Int) (p : Int) (b : Int):=(zsN Q.ord Q.inv Q.st f).1 (.step c (by rw [← hp]; exact .refl _))
    have o : ∀ d,Dom (Eg succ) (root : Int) d (b : Int) → d ≠ (b : Int) → Dom (Eg succ) (root : Int) d (p : Int):=fun d q u => by
     have:=Q.inv.A (b : Int) d c (zDL Q f) q u
     rwa [← hp] at this
    have hpb : p ≠ b:=fun e => by rw [e] at h3; omega
    refine zuf b p succ.length 0 (-2) (yG _) (by omega) ⟨hpb,(zjs hm Q p b).2 ⟨f,a⟩,?_⟩ fun k _ s g => ?_
    ·rw [zqc hm Q]
     intro k _ s
     by_cases e1 : k = b
     ·exact .inl e1
     ·by_cases e2 : ovB succ (root : Int) k b = true
      ·exact .inr (.inr ((zjs hm Q k p).2 ⟨h2,o _ ((zjs hm Q k b).1 e2).2 (by omega)⟩))
      ·exact .inr (.inl e2)
    ·rintro ⟨x,r,n⟩
     rw [zqc hm Q] at n;have m:=((zjs hm Q k b).1 r).2;rcases n p (yG _) (by omega) with e1 | e1 | e1
     ·exact hpb e1
     ·exact e1 ((zjs hm Q p b).2 ⟨f,a⟩)
     ·obtain ⟨ok,l⟩:=(zjs hm Q p k).1 e1
      have j:=o _ m (by omega);rcases zql Q.ord ok l with e2 | e2
      ·exact g (by omega)
      ·rcases zql Q.ord h2 j with e3 | e3
       ·exact g (by omega)
       ·omega
   ·rw [zwE Q f (by omega)]
    refine zno b succ.length 0 (-2) fun k _ _ h => ?_;exact f ((zjs hm Q k b).1 h.2.1).1
 ·rw [yj (by simp [ze8]; omega),yj (by rw [ziS Q]; omega)]
omit hm in
theorem zoS : ∀ (r : Nat) (acc : List Int) (a : Int),O a → pos a < r → ∃ ch,pathFrom (t.set root (-1)) r acc a = acc ++ a :: ch ∧ ∀ x,x ∈ a :: ch ↔ Anc (root : Int) (tf t) x a:=by
 intro r
 induction r with
 | zero => intro acc a _ h; omega
 | succ r ih =>
   intro acc a ha h;have ra:=Q.rng a ha;rw [pathFrom,if_neg (by rw [ziS Q]; omega)]
   by_cases c : a = (root : Int)
   ·rw [if_pos (by rw [znH Q ra.1,if_pos c])]
    refine ⟨[],rfl,fun x => ?_⟩;rw [yt];constructor
    ·rintro rfl; exact .refl _
    ·intro hx
     by_cases e : x = a
     ·exact e
     ·exact absurd c (zlB hx e).1
   ·obtain ⟨h1,h2,h3,h4⟩:=zrw Q ha c
    rw [h1,if_neg h4];obtain ⟨ch,e1,e2⟩:=ih (acc ++ [a]) (tf t a) h2 (by omega);refine ⟨tf t a :: ch,by rw [e1]; simp,fun x => ?_⟩;rw [yo,e2 x];constructor
    ·rintro (rfl | hx)
     ·exact .refl _
     ·exact .step c hx
    ·intro hx
     by_cases e : x = a
     ·exact .inl e
     ·exact .inr (zlB hx e).2
omit hm in
theorem zvJ {a b : Int} (ha : O a) (hb : O b) : zmH (t.set root (-1)) a b = a ↔ ziA (t.set root (-1)) a b = true:=by
 rw [zt7 Q];unfold zmH;rw [if_pos (ztU Q)];have hpa : pos a < (t.set root (-1)).length:=by rw [ziS Q]; exact Q.low a ha
 have hpb : pos b < (t.set root (-1)).length:=by rw [ziS Q]; exact Q.low b hb
 obtain ⟨ca,e1,e2⟩:=zoS Q _ [] a ha hpa;obtain ⟨cb,e3,e4⟩:=zoS Q _ [] b hb hpb;rw [List.nil_append] at e1 e3;have f1 : zsa (t.set root (-1)) a = a :: ca:=e1;have f2 : zsa (t.set root (-1)) b = b :: cb:=e3;rw [f1,f2,List.find?_cons]
 by_cases c : a ∈ b :: cb
 ·rw [decide_eq_true c]
  simp only [yE,true_iff];exact ⟨ha,hb,(e4 a).1 c⟩
 ·rw [decide_eq_false c]
  simp only;constructor
  ·intro h
   exfalso
   cases hf : ca.find? (fun x => decide (x ∈ b :: cb)) with
   | none =>
     rw [hf] at h;have:=(Q.rng a ha).1;simp at h;omega
   | some x =>
     rw [hf] at h;have:=List.find?_some hf;simp only [yE] at h;subst h;exact c (by simpa using this)
  ·rintro ⟨_,_,h⟩
   exact absurd ((e4 a).2 h) c
end
end AC

/- A part of the proof of AliasBoth. Conditions: none. -/
import Derived.Test.YtmkncmffaaninaaGreatABE
import Derived.Test.YtmkncmffaaninaaGreatABD
import Derived.Test.YtmkncmffaaninaaGreatABB
import Derived.Test.YtmkncmffaaninaaGreatAAQ
import Derived.Test.YtmkncmffaaninaaGreatAAV
import Derived.Test.YtmkncmffaaninaaGreatABA
import Derived.Test.YtmkncmffaaninaaGreatAAY
set_option linter.all false
open List renaming mem_of_getElem? → ya,mem_cons_of_mem → yb,mem_append → yc,getElem_mem → yd,mem_cons_self → yf,getElem?_eq_getElem → yg,length_map → yh,getElem?_eq_some_iff → yi,drop_eq_getElem_cons → yj,getD_eq_getElem?_getD → ym,length_cons → yq,mem_cons → yr,mem_iff_getElem? → ys,mem_iff_getElem → yu,mem_map → yy,drop_zero → yz,map_cons → yA
open Nat renaming zero_add → ye,le_refl → yB
open Int renaming lt_irrefl → yk,eq_ofNat_of_zero_le → yn,le_refl → yp,toNat_natCast → yw,emod_eq_of_lt → yx
open Bool renaming and_eq_true → yl
open Option renaming bind_some → yo,bind_eq_some_iff → yt,map_eq_some_iff → yv
namespace AC
open Go Go.A
theorem zfP {o : POp} {i at' : Int} : ∀ (l : List (Int × Int)) (k j : Nat),j < l.length → ∃ s,(⟨o.args.getD (k + j) 0,s,i,at'⟩ : Use) ∈ zai o i at' k l
 | [],_,_,h => by simp at h
 | s :: l,k,j,h => by
   rw [zai]
   cases j with
   | zero => exact ⟨s,yf⟩
   | succ j =>
     obtain ⟨t,a⟩:=zfP (o:=o) (i:=i) (at':=at') l (k + 1) j (by simpa using h);rw [show k + 1 + j = k + (j + 1) by omega] at a;exact ⟨t,yb _ a⟩
theorem zi8 {o : POp} (h : zeI o = true) : (zW o).length = o.args.length:=by
 have a:=h;unfold zeI at a;simp only [yl,decide_eq_true_eq] at a;unfold zW;rw [if_pos h];exact a.2.2.2.1
theorem zg9 {l : List Use} (h : (l.map Use.v).Nodup) {x y : Use} (d : x ∈ l) (c : y ∈ l) (e : x.v = y.v) : x = y:=by
 have b:=zf3 h d;have a:=zf3 h c;rw [e] at b;rw [b] at a;exact Option.some.inj a
theorem RightP.ahead {f : PFunc} {level : Int} (h : RightP f level) {k : Nat} {b : PBlock} (n : f.blocks[k]? = some b) {i j : Nat} {x y : POp} (p : b.ops[i]? = some x) (l : b.ops[j]? = some y) (hd : x.dst ≠ 0) (hm : x.dst ∈ y.args) : i < j:=by
 have e:=ya n;have q : zeI x = true:=zdV h.typed e (ya p);have B : zeI y = true:=zdV h.typed e (ya l);have z:=zrs q (by have:=zAv q; omega);obtain ⟨a,t,A⟩:=yu.1 hm;obtain ⟨s,r⟩:=zfP (o:=y) (i:=(k : Int)) (at':=(j : Int)) (zW y) 0 a (by rw [zi8 B]; exact t);rw [ye,ym,yg t] at r;have v:=(h.size e).1;have u:=(yi.1 l).1
 have hu : (⟨x.dst,s,(k : Int),(j : Int)⟩ : Use) ∈ zga f:=by
  unfold zga zcV;refine yy.2 ⟨⟨x.dst,s,(k : Int),(j : Int)⟩,(zhg _ _ _ 0).2 ⟨k,b,n,?_⟩,?_⟩
  ·rw [ye]
   refine yc.2 (.inr (yc.2 (.inl ((zjq _ _ _ 0).2 ⟨j,y,l,?_⟩))));rw [ye];rw [← A];exact r
  ·unfold ziR
   simp only;rw [if_neg (by omega)]
 obtain ⟨d,g,w,_,c⟩:=h.uses _ hu
 have m : (⟨x.dst,zN x,(k : Int),(i : Int)⟩ : Use) ∈ zR f:=by
  unfold zR;refine yc.2 (.inr ((zd4 _ _ 0).2 ⟨k,b,n,.inr ?_⟩));rw [ye];exact (zh5 _ _ _ 0).2 ⟨i,x,p,z,by rw [ye]⟩
 have:=zg9 h.once g m w;subst this;rcases c with c | ⟨_,c⟩ | ⟨c,_⟩
 ·have : (k : Int) < 0:=c
  omega
 ·have : (i : Int) < (j : Int):=c
  omega
 ·exact absurd rfl c
section
variable {ops : List POp} {order : List Int} (hl : LegalP ops order)
include hl
end
end AC
namespace AC
theorem zsd (x : Int) : zzE x = x % 18446744073709551616:=by
 unfold zzE Go.IntKind.wrap Go.IntKind.bits Go.IntKind.signed;simp only [Bool.false_and,if_neg Bool.false_ne_true];rfl
section
variable (ts us : List (Int × Int)) (a b n : Int) (ht : zD 0 ts = true) (hu : zD 0 us = true)
include ht hu
end
end AC
namespace AC
open Go Go.A
def upN (t : List Int) : Nat → Int → Option Nat
 | 0,_ => none
 | r + 1,a => if a < 0 ∨ (t.length : Int) ≤ a then none else if tr t a = -1 then some 1 else (upN t r (tr t a)).map (· + 1)
theorem ztm (t : List Int) : ∀ (r : Nat) (a : Int) (n : Nat),upN t r a = some n → upN t (r + 1) a = some n
 | 0,_,_,h => by simp [upN] at h
 | r + 1,a,n,h => by
   rw [upN] at h ⊢;split at h
   ·cases h
   ·rename_i c
    rw [if_neg c];split at h
    ·rename_i c2
     rw [if_pos c2];exact h
    ·rename_i c2
     rw [if_neg c2];rw [yv] at h ⊢;obtain ⟨m,hm,e⟩:=h;exact ⟨m,ztm t r _ m hm,e⟩
theorem zxG (t : List Int) : ∀ (r : Nat) (acc : List Int) (b : Int),pathFrom t r acc b ≠ [] → ∃ n,upN t r b = some n
 | 0,_,_,h => absurd rfl h
 | r + 1,acc,b,h => by
   rw [pathFrom] at h;rw [upN];split at h
   ·exact absurd rfl h
   ·rename_i c
    rw [if_neg c];split at h
    ·rename_i c2
     rw [if_pos c2];exact ⟨1,rfl⟩
    ·rename_i c2
     rw [if_neg c2];obtain ⟨n,a⟩:=zxG t r _ _ h;exact ⟨n + 1,by rw [a]; rfl⟩
theorem zyi (t : List Int) : ∀ (r : Nat) (acc : List Int) (b x : Int),x ∈ pathFrom t r acc b → x ∈ acc ∨ ∃ n m,upN t r b = some n ∧ upN t r x = some m ∧ (x = b ∨ m < n)
 | 0,_,_,_,h => by simp [pathFrom] at h
 | r + 1,acc,b,x,h => by
   obtain ⟨n,g⟩:=zxG t (r + 1) acc b (fun e => by rw [e] at h; simp at h)
   by_cases a : x = b
   ·exact .inr ⟨n,n,g,by rw [a]; exact g,.inl a⟩
   rw [pathFrom] at h;split at h
   ·simp at h
   ·rename_i c
    split at h
    ·rcases yc.1 h with h | h
     ·exact .inl h
     ·exact absurd (by simpa using h) a
    ·rename_i c2
     rw [upN,if_neg c,if_neg c2,yv] at g;obtain ⟨n0,d,e⟩:=g;rcases zyi t r _ _ x h with h | ⟨k,m,j,f,i⟩
     ·rcases yc.1 h with h | h
      ·exact .inl h
      ·exact absurd (by simpa using h) a
     ·rw [d] at j
      injection j with j;refine .inr ⟨n0 + 1,m,by rw [upN,if_neg c,if_neg c2,d]; rfl,ztm t r x m f,.inr ?_⟩;rcases i with i | i
      ·subst i
       rw [d] at f;injection f with f;omega
      ·omega
def rkB (t : List Int) (b : Int) : Nat:=(upN t t.length b).getD 0
theorem zBs {t : List Int} {a b : Int} (j : 0 ≤ a) (c : a ≠ b) (h : zmH t a b = a) : rkB t a < rkB t b:=by
 unfold zmH at h;split at h
 ·cases d : (zsa t a).find? fun x => decide (x ∈ zsa t b) with
  | none => rw [d] at h; simp at h; omega
  | some x =>
    rw [d] at h;have f : x = a:=h;subst f;have:=List.find?_some d;have hm : x ∈ zsa t b:=(by simpa using this);rcases zyi t _ _ _ _ hm with h | ⟨n,m,i,e,g⟩
    ·simp at h
    ·unfold rkB
     rw [i,e];exact g.resolve_left c
 ·omega
def rkD (t : List Int) (d : Use) : Nat:=if d.block < 0 then 0 else rkB t d.block * 2000 + (d.at' + 2).toNat
def rkV (f : PFunc) (v : Int) : Nat:=match (zR f).find? fun d => decide (d.v = v) with
 | some d => rkD (ze8 (zA f) 0) d
 | none => 0
theorem zAf {f : PFunc} {level : Int} (h : RightP f level) {d : Use} (hd : d ∈ zR f) : rkV f d.v = rkD (ze8 (zA f) 0) d:=by
 unfold rkV;rw [zf3 h.once hd]
theorem zAq {f : PFunc} {level : Int} (h : RightP f level) {d : Use} (hd : d ∈ zR f) (g : ¬ d.block < 0) : d.at' ≤ 1000:=by
 unfold zR at hd;rcases yc.1 hd with hd | hd
 ·exfalso
  have : ∀ (l : List Int) (k : Nat),d ∈ zbN k l → d.block = -1:=by
   intro l
   induction l with
   | nil => intro k h; simp [zbN] at h
   | cons b r ih =>
     intro k h;rw [zbN] at h;rcases yr.1 h with rfl | h
     ·rfl
     ·exact ih _ h
  have:=this _ _ hd;omega
 ·obtain ⟨j,b,e,a⟩:=(zd4 _ _ 0).1 hd
  rcases a with a | a
  ·obtain ⟨p,_,rfl⟩:=yy.1 a
   simp only;omega
  ·obtain ⟨i,o,c,_,rfl⟩:=(zh5 _ d _ 0).1 a
   have:=(h.size (ya e)).1;have:=(yi.1 c).1;simp only;omega
theorem RightP.arg {f : PFunc} {level : Int} (h : RightP f level) {k : Nat} {b : PBlock} (l : f.blocks[k]? = some b) {j : Nat} {y : POp} (g : b.ops[j]? = some y) {v : Int} (hm : v ∈ y.args) :
  ∃ d ∈ zR f,d.v = v ∧ (d.block < 0 ∨ (d.block = k ∧ d.at' < j) ∨ (d.block ≠ k ∧ zmH (ze8 (zA f) 0) d.block k = d.block)):=by
 have c:=ya l;have w : zeI y = true:=zdV h.typed c (ya g);obtain ⟨a,n,u⟩:=yu.1 hm;obtain ⟨s,m⟩:=zfP (o:=y) (i:=(k : Int)) (at':=(j : Int)) (zW y) 0 a (by rw [zi8 w]; exact n);rw [ye,ym,yg n] at m;have q:=(h.size c).1;have p:=(yi.1 g).1
 have hu : (⟨v,s,(k : Int),(j : Int)⟩ : Use) ∈ zga f:=by
  unfold zga zcV;refine yy.2 ⟨⟨v,s,(k : Int),(j : Int)⟩,(zhg _ _ _ 0).2 ⟨k,b,l,?_⟩,?_⟩
  ·rw [ye]
   refine yc.2 (.inr (yc.2 (.inl ((zjq _ _ _ 0).2 ⟨j,y,g,?_⟩))));rw [ye,← u];exact m
  ·unfold ziR
   simp only;rw [if_neg (by omega)]
 obtain ⟨d,e,r,_,t⟩:=h.uses _ hu;exact ⟨d,e,r,t⟩
theorem zz3 {f : PFunc} {level : Int} (h : RightP f level) {k : Nat} {b : PBlock} (l : f.blocks[k]? = some b) {j : Nat} {y : POp} (g : b.ops[j]? = some y) (hd : 0 < y.dst) {v : Int} (hm : v ∈ y.args) : rkV f v < rkV f y.dst:=by
 have m:=ya l;have p : zeI y = true:=zdV h.typed m (ya g)
 have i : (⟨y.dst,zN y,(k : Int),(j : Int)⟩ : Use) ∈ zR f:=by
  unfold zR;refine yc.2 (.inr ((zd4 _ _ 0).2 ⟨k,b,l,.inr ?_⟩));rw [ye];exact (zh5 _ _ _ 0).2 ⟨j,y,g,zrs p hd,by rw [ye]⟩
 have e2 : rkV f y.dst = rkB (ze8 (zA f) 0) k * 2000 + (j + 2):=by
  rw [zAf h i];unfold rkD;simp only;rw [if_neg (by omega)];omega
 obtain ⟨d,e,rfl,a⟩:=h.arg l g hm;rw [zAf h e,e2];unfold rkD;split
 ·omega
 ·rename_i c
  have o:=zAq h e c;rcases a with a | ⟨a,n⟩ | ⟨a,n⟩
  ·exact absurd a c
  ·rw [a]; omega
  ·have:=zBs (by omega) a n
   have : rkB (ze8 (zA f) 0) d.block * 2000 + 2000 ≤ rkB (ze8 (zA f) 0) k * 2000:=(by omega);omega
theorem zn9 {v : Int} {o : POp} : ∀ (l : List POp) (D : zmn),getM v (zh0 D l) = some o → getM v D = some o ∨ (o ∈ l ∧ o.dst = v)
 | [],_,h => .inl h
 | p :: l,D,h => by
   rw [zh0] at h;rcases zn9 l _ h with h | ⟨h,e⟩
   ·rw [zeE] at h
    split at h
    ·rename_i e
     injection h with h;subst h;exact .inr ⟨yf,e⟩
    ·exact .inl h
   ·exact .inr ⟨yb _ h,e⟩
theorem zqJ {v : Int} {o : POp} : ∀ (l : List PBlock) (D : zmn),getM v (opsOf D l) = some o → getM v D = some o ∨ ∃ b ∈ l,o ∈ b.ops ∧ o.dst = v
 | [],_,h => .inl h
 | b :: l,D,h => by
   rw [opsOf] at h;rcases zqJ l _ h with h | ⟨x,c,a⟩
   ·rcases zn9 _ _ h with h | h
    ·exact .inl h
    ·exact .inr ⟨b,yf,h⟩
   ·exact .inr ⟨x,yb _ c,a⟩
def zBL (r : zbw) : Prop:=r.1.length ≤ 16 ∧ 0 ≤ r.2
def zAU (M : zpf) : Prop:=∀ v r,getM v M = some r → zBL r
theorem zpb (x : Int) : 0 ≤ zzE x:=by
 rw [zsd];omega
theorem zyX {k : Int} {a b g : zbw} (h : tell k a b = some g) : 0 ≤ g.2:=by
 have e : ∀ x y : zbw,0 ≤ (zpD x y).2:=fun x y => by unfold zpD; split; exact zpb _; exact yp _
 have d : ∀ x y : zbw,0 ≤ (zmq x y).2:=fun x y => by unfold zmq; split; exact zpb _; exact yp _
 have c : ∀ (x : zbw) (n : Int),0 ≤ (zhO x n).2:=fun x n => by unfold zhO; split; exact zpb _; exact yp _
 unfold tell at h;split at h
 ·injection h with h; subst h; exact e _ _
 split at h
 ·injection h with h; subst h; exact d _ _
 split at h
 ·injection h with h; subst h; exact c _ _
 split at h
 ·injection h with h; subst h; exact c _ _
 split at h
 ·injection h with h; subst h; exact c _ _
 ·cases h
theorem zp3 (ops : zmn) (f : Int → Nat) (m : ∀ v o,getM v ops = some o → 1 ≤ o.kind → o.kind ≤ 8 → ∃ a b r,o.args = a :: b :: r ∧ f a < f v ∧ f b < f v) (k : ∀ v o,getM v ops = some o → 0 ≤ o.imm) :
  ∀ (n : Nat) (v : Int) (M : zpf),f v < n → zAU M → ∃ r M',zh3 ops n M v = some (r,M') ∧ zAU M' ∧ zBL r
 | 0,_,_,h,_ => absurd h (by omega)
 | n + 1,v,M,hv,hM => by
   rw [zh3]
   cases z : getM v M with
   | some r => exact ⟨r,M,rfl,hM,hM v r z⟩
   | none =>
     have hm : ∃ q j,zqU (zh3 ops n) ops M v = some (q,j) ∧ zAU j ∧ ∀ g,q = some g → 0 ≤ g.2:=by
      unfold zqU
      cases p : getM v ops with
      | none => exact ⟨none,M,rfl,hM,fun _ h => by cases h⟩
      | some o =>
        simp only;split
        ·exact ⟨none,M,rfl,hM,fun _ h => by cases h⟩
        split
        ·exact ⟨_,M,rfl,hM,fun g h => by injection h with h; subst h; exact k v o p⟩
        split
        ·exact ⟨none,M,rfl,hM,fun _ h => by cases h⟩
        ·rename_i c
         obtain ⟨a,b,r,A,r1,B⟩:=m v o p (by omega) (by omega);rw [A];obtain ⟨x,j,t,i1,C,p1⟩:=zp3 ops f m k n a M (by omega) hM;obtain ⟨y,s,e2,i2,D,p2⟩:=zp3 ops f m k n b j (by omega) i1;refine ⟨tell o.kind x y,s,?_,i2,fun g h => zyX h⟩;simp only [t,yo,e2];rw [if_pos ⟨by omega,p2⟩]
     obtain ⟨q,j,e,l,u⟩:=hm;rw [e]
     have d : zBL (zj9 v q):=by
      unfold zj9 zBL
      cases q with
      | none => exact ⟨by simp,yp _⟩
      | some g =>
        simp only;split
        ·exact ⟨by simp,yp _⟩
        ·exact ⟨by omega,u g rfl⟩
     refine ⟨_,_,rfl,fun w r i => ?_,d⟩;rw [zeE] at i;split at i
     ·injection i with i
      rw [← i];exact d
     ·exact l w r i
theorem zvr {f : PFunc} (u : okF f) {level : Int} (h : RightP f level) (v : Int) : ∃ n r M',zh3 (opsOf [] f.blocks) n [] v = some (r,M') ∧ zBL r:=by
 have i : ∀ v o,getM v (opsOf [] f.blocks) = some o → ∃ b ∈ f.blocks,o ∈ b.ops ∧ o.dst = v:=fun v o g => by
  rcases zqJ _ _ g with h | h
  ·simp [getM] at h
  ·exact h
 obtain ⟨r,M',e,_,p⟩:=zp3 (opsOf [] f.blocks) (rkV f) (fun v o g z y => by
  obtain ⟨b,m,d,rfl⟩:=i v o g;obtain ⟨k,t⟩:=ys.1 m;obtain ⟨j,s⟩:=ys.1 d;have l : zeI o = true:=zdV h.typed m d;have q:=zi8 l
  have p : (zW o).length = 2:=by
   unfold zW zV;rw [if_pos l]
   by_cases c : o.kind = 4
   ·simp [arith,asks,c]
   ·have x : arith o.kind = true:=by unfold arith; simp; omega
    simp [x,show ¬ o.kind = 0 by omega]
  have hd : 0 < o.dst:=by
   have w : zdz o.kind = false:=(by unfold zdz; simp; omega);unfold zeI at l;simp only [w,Bool.false_eq_true,if_false,yl] at l;have:=l.2.2.1;unfold value at this;simp only [yl,decide_eq_true_eq] at this;omega
  match e : o.args with
  | [] => have : (zW o).length = 0:=by rw [q,e]; rfl
          omega
  | [_] => have : (zW o).length = 1:=by rw [q,e]; rfl
           omega
  | a :: b :: r => exact ⟨a,b,r,rfl,zz3 h t s hd (by rw [e]; simp),zz3 h t s hd (by rw [e]; simp)⟩) (fun v o g => by
  obtain ⟨b,m,d,_⟩:=i v o g
  exact ((u.block b m).op o d).1.1) (rkV f v + 1) v [] (by omega) (fun v r h => by simp [getM] at h)
 exact ⟨_,r,M',e,p⟩
end AC
namespace AC
open Go Go.A Go.A.Lex
def zpT (o : POp) : Option (Int × Int):=if 0 ≤ zdn o.kind then some (o.args.getD (zdn o.kind).toNat 0,(o.lanes * o.bits).tdiv 8) else none
def zqV (b : PBlock) (a : Int) : Option (Int × Int):=if 0 ≤ a then (b.ops[a.toNat]?).bind zpT else none
def zdL (f : PFunc) (k a : Int) : Option (Int × Int):=if zkC f k = true then (f.blocks[k.toNat]?).bind (zqV · a) else none
def zgU : Option (Int × Int) → V
 | some p => .tup [vI p.1,vI p.2,vB true]
 | none => .tup [vI 0,vI 0,vB false]
theorem zmu {o : POp} (b : zeI o = true) (d : 0 ≤ zdn o.kind) : (zdn o.kind).toNat < o.args.length ∧ 0 < (o.lanes * o.bits).tdiv 8 ∧ (o.lanes * o.bits).tdiv 8 ≤ 1000 ∧ 0 ≤ o.lanes * o.bits ∧ o.lanes * o.bits ≤ 1024:=by
 have j:=b;unfold zeI at b;simp only [yl,decide_eq_true_eq] at b;obtain ⟨f,a,_,g,_⟩:=b;obtain ⟨hw,c⟩:=zeg f;have h:=zbM hw
 have i : 8 ≤ o.bits ∧ (zdn o.kind).toNat < o.args.length:=by
  unfold zdn at d ⊢;rw [← g]
  by_cases c1 : o.kind = 16
  ·simp [zV,arith,asks,c1] at a ⊢; exact a.2
  by_cases c2 : o.kind = 17
  ·simp [zV,arith,asks,c2] at a ⊢; exact a.2
  by_cases c3 : o.kind = 18
  ·simp [zV,arith,asks,c3] at a ⊢; exact a.2.2
  by_cases c4 : o.kind = 19
  ·simp [zV,arith,asks,c4] at a ⊢; exact a.2.2
  ·simp [c1,c2,c3,c4] at d
 refine ⟨i.2,?_⟩
 rcases c with e | e | e | e | e <;> rcases h with q | q | q | q | q <;> rw [e,q] <;> first | decide | omega
theorem zjv (b : PBlock) (h : b.ops.length ≤ 4294967296) (hm : ∀ o ∈ b.ops,zeI o = true) (a : Int) : call T 89 [zmx b,vI a] [] = some (zgU (zqV b a),[]):=by
 rw [zd (fn:=zap) rfl]
 by_cases c1 : a < 0
 ·have e : zqV b a = none:=by unfold zqV; rw [if_neg (by omega)]
  rw [e];simp -implicitDefEqProofs only [go_sem,zap,c1,zgU]
 obtain ⟨n,rfl⟩:=yn (show 0 ≤ a by omega);have l : zqV b n = (b.ops[n]?).bind zpT:=by unfold zqV; rw [if_pos (by omega),yw]
 rw [l]
 by_cases d : n < b.ops.length
 case neg =>
  have c2 : (n : Int) ≥ (b.ops.length : Int):=by omega
  rw [List.getElem?_eq_none (by omega)];simp -implicitDefEqProofs only [go_sem,zap,c1,yh,eq_true c2,zgU]
 have c2 : ¬ (n : Int) ≥ (b.ops.length : Int):=by omega
 rw [yg d,yo];have k:=hm _ (yd d);have g:=z6 (r:=ro) d;have c:=zel b.ops[n].kind;unfold zpT;generalize b.ops[n] = o at *
 by_cases c3 : 0 ≤ zdn o.kind
 case neg =>
  rw [if_neg c3];simp -implicitDefEqProofs only [go_sem,ro] at c g;simp -implicitDefEqProofs only [go_sem,zap,c1,c2,yh,g,c,ge_iff_le,c3,zgU]
 obtain ⟨f1,f2,f3,f4,f5⟩:=zmu k c3;rw [if_pos c3];have j : IntKind.i64.wrap (o.lanes * o.bits) = o.lanes * o.bits:=wrap_i64 (by omega) (by omega);have i : IntKind.i64.wrap ((o.lanes * o.bits).tdiv 8) = (o.lanes * o.bits).tdiv 8:=wrap_i64 (by omega) (by omega);have f : (o.args.map ri)[(zdn o.kind).toNat]? = some (ri (o.args.getD (zdn o.kind).toNat 0)):=by simp [f1]
 simp -implicitDefEqProofs only [go_sem,ro,ri] at c g f;simp -implicitDefEqProofs only [go_sem,zap,c1,c2,yh,g,c,ge_iff_le,c3,f,j,i,zgU]
theorem zkK (f : PFunc) (hf : okF f) (k : Int) : call T 88 [zbS f,vI k] [] = some (vB (zkC f k),[]):=by
 rw [zd (fn:=zb0) rfl];have a:=zvh f hf 2;rw [zrJ hf] at a;simp -implicitDefEqProofs only [go_sem] at a;unfold zkC
 by_cases c1 : 0 ≤ k
 case neg => simp -implicitDefEqProofs only [go_sem,zb0,a,ge_iff_le,c1]
 by_cases c2 : k < f.blocks.length
 case neg => simp -implicitDefEqProofs only [go_sem,zb0,a,ge_iff_le,c1,yh,c2]
 by_cases c3 : zdw f 2 = 0 <;> simp -implicitDefEqProofs only [go_sem,zb0,a,ge_iff_le,c1,yh,c2,c3]
theorem zaU (f : PFunc) (hf : okF f) (k a : Int) : call T 38 [zbS f,vI k,vI a] [] = some (zgU (zdL f k a),[]):=by
 rw [zd (fn:=zbG) rfl];have b:=zkK f hf k;unfold zdL
 cases c : zkC f k with
 | false =>
   rw [c] at b;simp -implicitDefEqProofs only [go_sem] at b;simp -implicitDefEqProofs only [go_sem,zbG,b,zgU]
 | true =>
   rw [c] at b;obtain ⟨j,l,h⟩:=znF.1 c;obtain ⟨n,rfl⟩:=yn j;have d : n < f.blocks.length:=(by omega);have g:=zjv f.blocks[n] (hf.block _ (yd d)).ops (fun o i => zdV h.typed (yd d) i) a;have e : ((n : Int) < (f.blocks.length : Int)) = True:=(by simp; omega);rw [yw,yg d,yo];cases q : zqV f.blocks[n] a <;> rw [q] at g <;> simp -implicitDefEqProofs only [go_sem,zgU] at b g <;> simp -implicitDefEqProofs only [go_sem,zbG,b,e,z6 d,rb,g,zgU]
theorem zhU {f : PFunc} {k a v m : Int} (h : zdL f k a = some (v,m)) : RightP f 2 ∧ 0 < m ∧ m ≤ 1000:=by
 unfold zdL at h;split at h
 ·rename_i c
  obtain ⟨j,i,d⟩:=znF.1 c;rw [yt] at h;obtain ⟨b,g,h⟩:=h;unfold zqV at h;split at h
  ·rw [yt] at h
   obtain ⟨o,e,h⟩:=h;unfold zpT at h;split at h
   ·rename_i c3
    injection h with h;injection h with h1 h2;have:=zmu (zdV d.typed (ya g) (ya e)) c3;exact ⟨d,by omega,by omega⟩
   ·cases h
  ·cases h
 ·cases h
theorem zy1 (f : PFunc) (hf : okF f) (a : RightP f 2) : ∃ (X : Int → zbw) (c : Int → Int),∀ v,call T 33 [zbS f,vI v] [] = some (.tup [vFm (X v),vI (c v)],[]) ∧ (X v).1.length ≤ 1000:=by
 have b : zfg f 2 (zzP f) = 0:=by
  have:=zrJ hf 2;rw [zle.2 a] at this;unfold ziO at this;rw [if_neg (by omega)] at this;exact this
 have h : ∀ v,∃ (x : zbw × Int),call T 33 [zbS f,vI v] [] = some (.tup [vFm x.1,vI x.2],[]) ∧ x.1.1.length ≤ 1000:=fun v => by
  by_cases d : getM v (zdU f) = some (64,1)
  ·obtain ⟨n,r,g,e,i,_⟩:=zvr hf a v
   exact ⟨(r,0),zx9 f hf _ (zsA hf) b v d n r g e,by simp only; omega⟩
  ·exact ⟨(zqr,10),zsH f hf _ (zsA hf) b v d,by simp⟩
 exact ⟨fun v => (h v).choose.1,fun v => (h v).choose.2,fun v => (h v).choose_spec⟩
def zpt (X : Int → zbw) (p : Int → Int → Int → Bool) : Option (Int × Int) → Option (Int × Int) → Bool
 | some a,some b => decide ((X a.1).1 = (X b.1).1) && p (IntKind.u64.wrap ((X b.1).2 - (X a.1).2)) a.2 b.2
 | _,_ => false
def zvE (X : Int → zbw) : Option (Int × Int) → Option (Int × Int) → Int
 | some a,some b => if (X a.1).1 = (X b.1).1 then IntKind.u64.wrap ((X b.1).2 - (X a.1).2) else 0
 | _,_ => 0
section
variable (f : PFunc) (hf : okF f) (X : Int → zbw) (c : Int → Int) (hX : RightP f 2 → ∀ v,call T 33 [zbS f,vI v] [] = some (.tup [vFm (X v),vI (c v)],[]) ∧ (X v).1.length ≤ 1000)
include hf hX
theorem zoM (k a b : Int) (g : Nat) (p : Int → Int → Int → Bool) (u : ∀ d m n σ,call T g [zge d,zge m,zge n] σ = some (vB (p d m n),σ)) :
  call T 91 [zbS f,vI k,vI a,vI b,.one (.fn g [] [])] [.cells 0 3 [zcN f]] = some (vB (zpt X p (zdL f k a) (zdL f k b)),[.cells 0 3 [zcN f]]):=by
 rw [zd (fn:=zE) rfl];have e:=zaU f hf k a;have c:=zaU f hf k b
 cases j : zdL f k a with
 | none =>
   rw [j] at e;cases h : zdL f k b <;> rw [h] at c <;> simp -implicitDefEqProofs only [go_sem,zgU] at e c <;> simp -implicitDefEqProofs only [go_sem,zE,e,c,zpt]
 | some A =>
   obtain ⟨v,m⟩:=A;rw [j] at e;obtain ⟨r,z,m1⟩:=zhU j
   cases h : zdL f k b with
   | none =>
     rw [h] at c;simp -implicitDefEqProofs only [go_sem,zgU] at e c;simp -implicitDefEqProofs only [go_sem,zE,e,c,zpt]
   | some B =>
     obtain ⟨w,n⟩:=B;rw [h] at c;obtain ⟨_,n0,y⟩:=zhU h;obtain ⟨o,x⟩:=hX r v;obtain ⟨i,_⟩:=hX r w;have l:=zil (X v).1 (X w).1 (by omega);have t : IntKind.u64.wrap m = m:=wrap_u64 (by omega) (by omega);have s : IntKind.u64.wrap n = n:=wrap_u64 (by omega) (by omega);simp -implicitDefEqProofs only [go_sem,zgU,vFm,fF] at e c o i l u
     by_cases q : (X v).1 = (X w).1
     ·simp -implicitDefEqProofs only [go_sem,zE,e,c,o,i,l,t,s,eq_true q,u,zpt]
     ·simp -implicitDefEqProofs only [go_sem,zE,e,c,o,i,l,t,s,q,zpt]
theorem zkg (k a b : Int) : call T 44 [zbS f,vI k,vI a,vI b] [] = some (vB (zpt X (fun d m _ => decide (d = m)) (zdL f k a) (zdL f k b)),[]):=by
 rw [zd (fn:=zcG) rfl];have hw:=zoM f hf X c hX k a b 96 (fun d m _ => decide (d = m)) ziM;simp -implicitDefEqProofs only [go_sem] at hw;simp -implicitDefEqProofs only [go_sem,zcG,hw]
theorem znK (k a b : Int) : call T 42 [zbS f,vI k,vI a,vI b] [] = some (vB (zpt X (fun d m n => decide (m ≤ d) && decide (n ≤ IntKind.u64.wrap (0 - d))) (zdL f k a) (zdL f k b)),[]):=by
 rw [zd (fn:=zdp) rfl];have hw:=zoM f hf X c hX k a b 95 (fun d m n => decide (m ≤ d) && decide (n ≤ IntKind.u64.wrap (0 - d))) zli;simp -implicitDefEqProofs only [go_sem] at hw;simp -implicitDefEqProofs only [go_sem,zdp,hw]
theorem zfG (k a b : Int) : call T 40 [zbS f,vI k,vI a,vI b] [] = some (.tup [zge (zvE X (zdL f k a) (zdL f k b)),vB (zpt X (fun _ _ _ => true) (zdL f k a) (zdL f k b))],[]):=by
 rw [zd (fn:=zb5) rfl];have d:=zaU f hf k a;have c:=zaU f hf k b
 have hw : ∀ σ,σ = [Ob.cells 0 3 [zcN f],.cells 0 1 [[.f (eu 0)]]] → call T 91 [zbS f,vI k,vI a,vI b,.one (.fn 92 [] [.ptr 1 0 0 0])] σ =
   some (vB (zpt X (fun _ _ _ => true) (zdL f k a) (zdL f k b)),[Ob.cells 0 3 [zcN f],.cells 0 1 [[.f (eu (zvE X (zdL f k a) (zdL f k b)))]]]):=by
  rintro σ rfl;rw [zd (fn:=zE) rfl]
  cases i : zdL f k a with
  | none =>
    rw [i] at d;cases g : zdL f k b <;> rw [g] at c <;> simp -implicitDefEqProofs only [go_sem,zgU] at d c <;> simp -implicitDefEqProofs only [go_sem,zE,d,c,zpt,zvE]
  | some A =>
    obtain ⟨v,m⟩:=A;rw [i] at d;obtain ⟨o,y,m1⟩:=zhU i
    cases g : zdL f k b with
    | none =>
      rw [g] at c;simp -implicitDefEqProofs only [go_sem,zgU] at d c;simp -implicitDefEqProofs only [go_sem,zE,d,c,zpt,zvE]
    | some B =>
      obtain ⟨w,n⟩:=B;rw [g] at c;obtain ⟨_,n0,x⟩:=zhU g;obtain ⟨l,u⟩:=hX o v;obtain ⟨h,_⟩:=hX o w;have j:=zil (X v).1 (X w).1 (by omega);have s : IntKind.u64.wrap m = m:=wrap_u64 (by omega) (by omega);have p : IntKind.u64.wrap n = n:=wrap_u64 (by omega) (by omega);have t:=fun r => zhh (IntKind.u64.wrap ((X w).2 - (X v).2)) m n 0 (.cells 0 3 [zcN f]) r;simp -implicitDefEqProofs only [go_sem,zgU,vFm,fF] at d c l h j t
      by_cases q : (X v).1 = (X w).1
      ·simp -implicitDefEqProofs only [go_sem,zE,d,c,l,h,j,s,p,eq_true q,t,zpt,zvE]
      ·simp -implicitDefEqProofs only [go_sem,zE,d,c,l,h,j,s,p,q,zpt,zvE]
 have e:=hw _ rfl;simp -implicitDefEqProofs only [go_sem] at e;simp -implicitDefEqProofs only [go_sem,zb5,e]
end
end AC
namespace AC
open Go Go.A
def LB : Nat:=140737488351232
structure anyB (b : PBlock) : Prop where
 phis : b.phis.length ≤ LB
 ops : b.ops.length ≤ LB
 phi : ∀ p ∈ b.phis,p.src.length ≤ LB ∧ p.args.length ≤ LB
 op : ∀ o ∈ b.ops,(0 ≤ o.imm ∧ o.imm < 18446744073709551616) ∧ o.args.length ≤ LB
 to : b.to.length ≤ LB
structure anyF (f : PFunc) : Prop where
 params : f.params.length ≤ LB
 blocks : f.blocks.length ≤ LB
 block : ∀ b ∈ f.blocks,anyB b
theorem zs0 {n : Nat} (h : n ≤ 9223372036854775807) : Go.IntKind.i64.wrap (n : Int) = (n : Int):=wrap_i64 (by omega) (by omega)
theorem zia {k n : Nat} (h : k < n) (a : n ≤ LB) : Go.IntKind.i64.wrap ((k : Int) + 1) = ((k + 1 : Nat) : Int):=by
 unfold LB at a;rw [wrap_i64] <;> omega
end AC
namespace AC
open Go Go.A Go.A.Lex
def ztM : Nat → List PPhi → Nat
 | n,[] => n
 | n,p :: r => if n ≤ 20000 then ztM (n + 1 + p.src.length + p.args.length) r else n
def zvF : Nat → List POp → Nat
 | n,[] => n
 | n,o :: r => if n ≤ 20000 then zvF (n + 1 + o.args.length) r else n
def zvC : Nat → List PBlock → Nat
 | n,[] => n
 | n,b :: r => if n ≤ 20000 then zvC (zvF (ztM (n + 1 + b.to.length) b.phis) b.ops) r else n
def zoa (f : PFunc) : Bool:=decide (zvC f.params.length f.blocks ≤ 20000)
theorem zxZ (a : LB = 140737488351232) : ∀ (l : List PPhi) (n : Nat),(∀ p ∈ l,p.src.length ≤ LB ∧ p.args.length ≤ LB) → n ≤ 500000000000000 → ztM n l ≤ 500000000000000
 | [],n,_,h => h
 | p :: l,n,hp,h => by
   have:=hp p yf;rw [ztM];split
   ·exact zxZ a l _ (fun q b => hp q (yb _ b)) (by omega)
   ·exact h
theorem zyc (a : LB = 140737488351232) : ∀ (l : List POp) (n : Nat),(∀ p ∈ l,p.args.length ≤ LB) → n ≤ 500000000000000 → zvF n l ≤ 500000000000000
 | [],n,_,h => h
 | p :: l,n,hp,h => by
   have:=hp p yf;rw [zvF];split
   ·exact zyc a l _ (fun q b => hp q (yb _ b)) (by omega)
   ·exact h
section
variable (f : PFunc) (hf : anyF f)
include hf
theorem zDn (i : Nat) (b : i < f.blocks.length) : ∀ (d k n : Nat) (a0 a2 a6 a7 a8 a9 : V),f.blocks[i].phis.length - k = d → k ≤ f.blocks[i].phis.length → n ≤ 1000000000000000 →
  exec T za6 ⟨[a0,.one (.ptr 0 0 0 0),a2,vI (n : Int),vI i,vI k,a6,a7,a8,a9],[.cells 0 3 [zcN f]],0,0⟩ =
   some (.exit 2,⟨[vU,.one (.ptr 0 0 0 0),vU,vI (ztM n (f.blocks[i].phis.drop k) : Nat),vI i,vU,vU,vU,vU,vU],[.cells 0 3 [zcN f]],0,0⟩):=by
 have j:=hf.block _ (yd b);intro d
 induction d with
 | zero =>
   intro k n a0 a2 a6 a7 a8 a9 q l m;have a : k = f.blocks[i].phis.length:=(by omega);subst a;have e : f.blocks[i].phis.drop f.blocks[i].phis.length = []:=(by simp);rw [xl za6 rfl,zcl,e,ztM];simp -implicitDefEqProofs only [go_sem,z6 b,rb,yk]
 | succ d ih =>
   intro k n a0 a2 a6 a7 a8 a9 q l m;have a : k < f.blocks[i].phis.length:=(by omega);have h : f.blocks[i].phis.drop k = f.blocks[i].phis[k] :: f.blocks[i].phis.drop (k + 1):=yj a;have t:=j.phi _ (yd a);have s : LB = 140737488351232:=rfl;rw [xl za6 rfl,zcl,h,ztM]
   by_cases c : n ≤ 20000
   ·have g : ((n : Nat) : Int) ≤ 20000:=by omega
    have p : Go.IntKind.i64.wrap ((n : Int) + 1) = ((n + 1 : Nat) : Int):=zs0 (n:=n + 1) (by omega);have o : Go.IntKind.i64.wrap (((n + 1 : Nat) : Int) + (f.blocks[i].phis[k].src.length : Int)) = ((n + 1 + f.blocks[i].phis[k].src.length : Nat) : Int):=zs0 (n:=n + 1 + f.blocks[i].phis[k].src.length) (by omega);have r : Go.IntKind.i64.wrap (((n + 1 + f.blocks[i].phis[k].src.length : Nat) : Int) + (f.blocks[i].phis[k].args.length : Int)) = ((n + 1 + f.blocks[i].phis[k].src.length + f.blocks[i].phis[k].args.length : Nat) : Int):=zs0 (n:=n + 1 + f.blocks[i].phis[k].src.length + f.blocks[i].phis[k].args.length) (by omega);have:=ih (k + 1) (n + 1 + f.blocks[i].phis[k].src.length + f.blocks[i].phis[k].args.length) vU vU vU vU vU vU (by omega) (by omega) (by omega);rw [if_pos c];simp -implicitDefEqProofs only [go_sem] at this;simp -implicitDefEqProofs only [go_sem,ilt a,z6 b,z6 a,rb,rp,g,p,o,r,zia a j.phis,this]
   ·have g : ¬ ((n : Nat) : Int) ≤ 20000:=by omega
    rw [if_neg c];simp -implicitDefEqProofs only [go_sem,ilt a,z6 b,rb,g]
theorem zDt (i : Nat) (b : i < f.blocks.length) : ∀ (d k n : Nat) (a0 a2 a5 a7 a8 a9 : V),f.blocks[i].ops.length - k = d → k ≤ f.blocks[i].ops.length → n ≤ 1000000000000000 →
  exec T za1 ⟨[a0,.one (.ptr 0 0 0 0),a2,vI (n : Int),vI i,a5,vI k,a7,a8,a9],[.cells 0 3 [zcN f]],0,0⟩ =
   some (.exit 4,⟨[vU,.one (.ptr 0 0 0 0),vU,vI (zvF n (f.blocks[i].ops.drop k) : Nat),vI i,vU,vU,vU,vU,vU],[.cells 0 3 [zcN f]],0,0⟩):=by
 have j:=hf.block _ (yd b);intro d
 induction d with
 | zero =>
   intro k n a0 a2 a5 a7 a8 a9 q l m;have a : k = f.blocks[i].ops.length:=(by omega);subst a;have e : f.blocks[i].ops.drop f.blocks[i].ops.length = []:=(by simp);rw [xl za1 rfl,zcp,e,zvF];simp -implicitDefEqProofs only [go_sem,z6 b,rb,yk]
 | succ d ih =>
   intro k n a0 a2 a5 a7 a8 a9 q l m;have a : k < f.blocks[i].ops.length:=(by omega);have h : f.blocks[i].ops.drop k = f.blocks[i].ops[k] :: f.blocks[i].ops.drop (k + 1):=yj a;have s:=j.op _ (yd a);have r : LB = 140737488351232:=rfl;rw [xl za1 rfl,zcp,h,zvF]
   by_cases c : n ≤ 20000
   ·have g : ((n : Nat) : Int) ≤ 20000:=by omega
    have p : Go.IntKind.i64.wrap ((n : Int) + 1) = ((n + 1 : Nat) : Int):=zs0 (n:=n + 1) (by omega);have o : Go.IntKind.i64.wrap (((n + 1 : Nat) : Int) + (f.blocks[i].ops[k].args.length : Int)) = ((n + 1 + f.blocks[i].ops[k].args.length : Nat) : Int):=zs0 (n:=n + 1 + f.blocks[i].ops[k].args.length) (by omega);have:=ih (k + 1) (n + 1 + f.blocks[i].ops[k].args.length) vU vU vU vU vU vU (by omega) (by omega) (by omega);rw [if_pos c];simp -implicitDefEqProofs only [go_sem] at this;simp -implicitDefEqProofs only [go_sem,ilt a,z6 b,z6 a,rb,ro,g,p,o,zia a j.ops,this]
   ·have g : ¬ ((n : Nat) : Int) ≤ 20000:=by omega
    rw [if_neg c];simp -implicitDefEqProofs only [go_sem,ilt a,z6 b,rb,g]
theorem zDx : ∀ (d k n : Nat) (a0 a2 a5 a6 a7 a8 a9 : V),f.blocks.length - k = d → k ≤ f.blocks.length → n ≤ 500000000000000 →
  exec T za8 ⟨[a0,.one (.ptr 0 0 0 0),a2,vI (n : Int),vI k,a5,a6,a7,a8,a9],[.cells 0 3 [zcN f]],0,0⟩ =
   some (.exit 0,⟨[vU,vU,vU,vI (zvC n (f.blocks.drop k) : Nat),vU,vU,vU,vU,vU,vU],[.cells 0 3 [zcN f]],0,0⟩):=by
 have i : LB = 140737488351232:=rfl;intro d
 induction d with
 | zero =>
   intro k n a0 a2 a5 a6 a7 a8 a9 s j l;have a : k = f.blocks.length:=(by omega);subst a;have e : f.blocks.drop f.blocks.length = []:=(by simp);rw [xl za8 rfl,zci,e,zvC];simp -implicitDefEqProofs only [go_sem,yk]
 | succ d ih =>
   intro k n a0 a2 a5 a6 a7 a8 a9 s j l;have a : k < f.blocks.length:=(by omega);have h : f.blocks.drop k = f.blocks[k] :: f.blocks.drop (k + 1):=yj a;have g:=hf.block _ (yd a);have m:=g.to;rw [xl za8 rfl,zci,h,zvC]
   by_cases c : n ≤ 20000
   ·have b : ((n : Nat) : Int) ≤ 20000:=by omega
    have r : Go.IntKind.i64.wrap ((n : Int) + 1) = ((n + 1 : Nat) : Int):=zs0 (n:=n + 1) (by omega);have p : Go.IntKind.i64.wrap (((n + 1 : Nat) : Int) + (f.blocks[k].to.length : Int)) = ((n + 1 + f.blocks[k].to.length : Nat) : Int):=zs0 (n:=n + 1 + f.blocks[k].to.length) (by omega);have b1:=zxZ i f.blocks[k].phis (n + 1 + f.blocks[k].to.length) g.phi (by omega);have b2:=zyc i f.blocks[k].ops _ (fun o q => (g.op o q).2) b1;have p1:=fun a0 a2 a6 a7 a8 a9 => zDn f hf k a f.blocks[k].phis.length 0 (n + 1 + f.blocks[k].to.length) a0 a2 a6 a7 a8 a9 (by omega) (by omega) (by omega);have p2:=fun a0 a2 a5 a7 a8 a9 => zDt f hf k a f.blocks[k].ops.length 0 (ztM (n + 1 + f.blocks[k].to.length) f.blocks[k].phis) a0 a2 a5 a7 a8 a9 (by omega) (by omega) (by omega);have:=ih (k + 1) (zvF (ztM (n + 1 + f.blocks[k].to.length) f.blocks[k].phis) f.blocks[k].ops) vU vU vU vU vU vU vU (by omega) (by omega) b2;rw [if_pos c];rw [yz] at p1 p2;simp -implicitDefEqProofs only [go_sem] at this p1 p2;simp -implicitDefEqProofs only [go_sem,ilt a,z6 a,rb,b,r,p,p1,p2,zia a hf.blocks,this]
   ·have b : ¬ ((n : Nat) : Int) ≤ 20000:=by omega
    rw [if_neg c];simp -implicitDefEqProofs only [go_sem,ilt a,b]
theorem zpe : call T 61 [zbS f] [] = some (vB (zoa f),[]):=by
 have b : LB = 140737488351232:=rfl;have d:=hf.params;rw [zd (fn:=zbc) rfl];have h:=fun a0 a2 a5 a6 a7 a8 a9 => zDx f hf f.blocks.length 0 f.params.length a0 a2 a5 a6 a7 a8 a9 (by omega) (by omega) (by omega);rw [yz] at h;simp -implicitDefEqProofs only [go_sem] at h;unfold zoa
 by_cases c : zvC f.params.length f.blocks ≤ 20000
 ·have a : ((zvC f.params.length f.blocks : Nat) : Int) ≤ 20000:=by omega
  simp -implicitDefEqProofs only [go_sem,zbc,h,c,a]
 ·have a : ¬ ((zvC f.params.length f.blocks : Nat) : Int) ≤ 20000:=by omega
  simp -implicitDefEqProofs only [go_sem,zbc,h,c,a]
theorem zCb : ∀ (d k : Nat) (n : Int),f.blocks.length - k = d → k ≤ f.blocks.length →
  ∃ m : Int,∀ (a0 a2 a5 : V),exec T za3 ⟨[a0,.one (.ptr 0 0 0 0),a2,vI n,vI k,a5],[.cells 0 3 [zcN f]],0,0⟩ =
    some (.exit 0,⟨[vU,.one (.ptr 0 0 0 0),vU,vI m,vU,vU],[.cells 0 3 [zcN f]],0,0⟩):=by
 have e : LB = 140737488351232:=rfl;intro d
 induction d with
 | zero =>
   intro k n c b;have a : k = f.blocks.length:=(by omega);subst a;refine ⟨n,fun a0 a2 a5 => ?_⟩;rw [xl za3 rfl,zcn];simp -implicitDefEqProofs only [go_sem,yk]
 | succ d ih =>
   intro k n c b;have a : k < f.blocks.length:=(by omega);obtain ⟨m,hm⟩:=ih (k + 1) (Go.IntKind.i64.wrap (Go.IntKind.i64.wrap (Go.IntKind.i64.wrap (n + 1) + (f.blocks[k].ops.length : Int)) + (f.blocks[k].phis.length : Int))) (by omega) (by omega);refine ⟨m,fun a0 a2 a5 => ?_⟩;have:=hm vU vU vU;rw [xl za3 rfl,zcn];simp -implicitDefEqProofs only [go_sem] at this;simp -implicitDefEqProofs only [go_sem,ilt a,z6 a,rb,zia a hf.blocks,this]
theorem zpJ : ∃ b : Bool,call T 16 [zbS f] [] = some (vB b,[]) ∧ (b = true → zoa f = true):=by
 obtain ⟨m,hm⟩:=zCb f hf f.blocks.length 0 0 (by omega) (by omega);have a:=zpe f hf;rw [zd (fn:=zr) rfl];simp -implicitDefEqProofs only [go_sem] at hm a;cases c : zoa f
 ·refine ⟨false,?_,fun h => by cases h⟩
  rw [c] at a;simp -implicitDefEqProofs only [go_sem,zr,hm,a]
 ·rw [c] at a
  by_cases c1 : (f.blocks.length : Int) ≤ 16
  ·have d : ¬ (64 : Int) < (f.blocks.length : Int):=by omega
   by_cases c3 : m ≤ 100
   ·refine ⟨true,?_,fun _ => rfl⟩
    simp -implicitDefEqProofs only [go_sem,zr,hm,a,c1,c3]
   ·by_cases c4 : 512 < m
    ·refine ⟨true,?_,fun _ => rfl⟩
     simp -implicitDefEqProofs only [go_sem,zr,hm,a,c1,d,c3,c4]
    ·refine ⟨false,?_,fun h => by cases h⟩
     simp -implicitDefEqProofs only [go_sem,zr,hm,a,c1,d,c3,c4]
  ·by_cases c2 : (64 : Int) < (f.blocks.length : Int)
   ·refine ⟨true,?_,fun _ => rfl⟩
    simp -implicitDefEqProofs only [go_sem,zr,hm,a,c1,c2]
   ·by_cases c4 : 512 < m
    ·refine ⟨true,?_,fun _ => rfl⟩
     simp -implicitDefEqProofs only [go_sem,zr,hm,a,c1,c2,c4]
    ·refine ⟨false,?_,fun h => by cases h⟩
     simp -implicitDefEqProofs only [go_sem,zr,hm,a,c1,c2,c4]
end
theorem zwT : ∀ (l : List PPhi) (n : Nat),ztM n l ≤ 20000 → n + l.length ≤ ztM n l ∧ ∀ p ∈ l,p.src.length ≤ 20000 ∧ p.args.length ≤ 20000
 | [],n,_ => ⟨yB _,fun _ h => by simp at h⟩
 | p :: l,n,h => by
   rw [ztM] at h ⊢;split at h
   ·rename_i c
    obtain ⟨d,b⟩:=zwT l _ h;rw [if_pos c];refine ⟨by simp only [yq]; omega,fun q a => ?_⟩;rcases yr.1 a with rfl | a
    ·omega
    ·exact b q a
   ·omega
theorem zwX : ∀ (l : List POp) (n : Nat),zvF n l ≤ 20000 → n + l.length ≤ zvF n l ∧ ∀ p ∈ l,p.args.length ≤ 20000
 | [],n,_ => ⟨yB _,fun _ h => by simp at h⟩
 | p :: l,n,h => by
   rw [zvF] at h ⊢;split at h
   ·rename_i c
    obtain ⟨d,b⟩:=zwX l _ h;rw [if_pos c];refine ⟨by simp only [yq]; omega,fun q a => ?_⟩;rcases yr.1 a with rfl | a
    ·omega
    ·exact b q a
   ·omega
theorem zwC : ∀ (l : List PBlock) (n : Nat),(∀ b ∈ l,anyB b) → zvC n l ≤ 20000 → n + l.length + (l.map fun b => b.phis.length + b.ops.length).sum ≤ zvC n l ∧ ∀ b ∈ l,okB b
 | [],n,_,_ => ⟨by simp [zvC],fun _ h => by simp at h⟩
 | b :: l,n,ha,h => by
   rw [zvC] at h ⊢;split at h
   ·rename_i c
    obtain ⟨m,e⟩:=zwC l _ (fun x g => ha x (yb _ g)) h;rw [if_pos c];obtain ⟨k,i⟩:=zwX b.ops _ (show zvF (ztM (n + 1 + b.to.length) b.phis) b.ops ≤ 20000 by omega);obtain ⟨p1,p2⟩:=zwT b.phis _ (show ztM (n + 1 + b.to.length) b.phis ≤ 20000 by omega);refine ⟨by simp only [yq,yA,List.sum_cons]; omega,fun q a => ?_⟩;rcases yr.1 a with rfl | a
    ·have f:=ha q yf
     exact ⟨by omega,by omega,fun p j => by have:=p2 p j; exact ⟨by omega,by omega⟩,fun o d => ⟨(f.op o d).1,by have:=i o d; omega⟩,by omega⟩
    ·exact e q a
   ·omega
theorem zyR {f : PFunc} (hf : anyF f) (h : zoa f = true) : okF f:=by
 unfold zoa at h;rw [decide_eq_true_eq] at h;obtain ⟨b,a⟩:=zwC f.blocks _ hf.block h;exact ⟨by omega,by omega,a,by omega⟩
theorem zwd {f : PFunc} (R : RightF f [-1]) {v : Int} (b : getM v (zdU f) = some (64,1)) {n : Nat} {r : zbw} (a : ∃ M',zh3 (opsOf [] f.blocks) n [] v = some (r,M')) :
  call T 33 [zbS f,vI v] [] = some (.tup [vFm r,vI 0],[]):=by
 obtain ⟨M',h⟩:=a;exact zx9 f R.ok [-1] R.isT R.look v b n r M' h
def ldO (w d a : Int) : POp:=⟨16,w,1,d,[a],0⟩
theorem zsB {ps : List Int} {ret arg : Int} {ops : List POp} (R : RightF (zf7 ps ret ops arg) [-1]) {a b : Nat} {c d : POp} (u : ops[a]? = some c) (p : ops[b]? = some d) (s : c.kind = 16 ∨ c.kind = 17) (l : d.kind = 16 ∨ d.kind = 17) (t : c.lanes = 1) (v : d.lanes = 1)
  {va e : Int} {j tb : List Int} (f : c.args = va :: j) (h : d.args = e :: tb) {m n : Int} (hm : c.bits = 8 * m) (k : d.bits = 8 * n) (g : 0 ≤ m ∧ m ≤ 1000) (n0 : 0 ≤ n ∧ n ≤ 1000)
  {r1 i : zbw} (q : call T 33 [zbS (zf7 ps ret ops arg),vI va] [] = some (.tup [vFm r1,vI 0],[])) (r : call T 33 [zbS (zf7 ps ret ops arg),vI e] [] = some (.tup [vFm i,vI 0],[])) (o : r1.1.length ≤ 1000) :
  TwoT (zf7 ps ret ops arg) 0 a b va e m n r1 i :=
 ⟨zfv R 0 (by simp [zf7]) a c u s t va j f m hm g.1 g.2,zfv R 0 (by simp [zf7]) b d p l v e tb h n k n0.1 n0.2,q,r,g,n0,o⟩
theorem zBW {op : Int → Int → Int} (b : op 0 0 = 0) (a : op 1 0 = 1) : zcE op [(1,1)] [] = [(1,1)]:=by
 rw [zcE,zcE,a];rfl
def zCF (d n : Int) : POp:=⟨0,64,1,d,[],n⟩
def zCP (k d a b : Int) : POp:=⟨k,64,1,d,[a,b],0⟩
theorem zDi {n : Int} (a : 0 ≤ n) (b : n < 18446744073709551616) : zA5 n 64 = n:=by
 unfold zA5;rw [if_pos (show zfX 64 = true from rfl)];exact yx a b
section
variable (k : Int) (h0 : 0 ≤ k) (h1 : k < 18446744073709551616)
include h0 h1 in
theorem zDo : tell 1 ([(1,1)],0) ([],k) = some ([(1,1)],k):=by
 have a : zD 0 [((1 : Int),(1 : Int))] = true:=by simp [zD]
 have b : zD 0 ([] : List (Int × Int)) = true:=rfl
 have : pl 0 k = k:=by
  rw [pl,zsd,Int.zero_add];exact yx h0 h1
 rw [tell,if_pos rfl,zpD,if_pos ⟨a,b⟩,zBW rfl rfl,this]
include h0 h1 in
include h0 h1 in
include h0 h1 in
include h0 h1 in
include h0 h1 in
end
theorem zAI (l : List Int) (c : l.length ≤ 4294967296) : ∀ (d k : Nat) (a2 a4 a5 a6 : V),l.length - k = d → k ≤ l.length →
  exec T zbf ⟨[vIs l,vIs l,a2,vI k,a4,a5,a6],[],0,0⟩ = some (.exit 0,⟨[vU,vU,vU,vU,vU,vU,vU],[],0,0⟩):=by
 intro d
 induction d with
 | zero =>
   intro k a2 a4 a5 a6 e b;have a : k = l.length:=(by omega);subst a;rw [xl zbf rfl,zcu];simp -implicitDefEqProofs only [go_sem,yk,yh]
 | succ d ih =>
   intro k a2 a4 a5 a6 e b;have a : k < l.length:=(by omega);have:=ih (k + 1) vU vU vU vU (by omega) (by omega);rw [xl zbf rfl,zcu];simp -implicitDefEqProofs only [go_sem] at this;simp -implicitDefEqProofs only [go_sem,ilt a,z6 a,ri,yh,zf a c,this]
theorem zxE (l : List Int) (a : l.length ≤ 4294967296) : call T 22 [vIs l,vIs l] [] = some (vB true,[]):=by
 rw [zd (fn:=zcS) rfl];have h:=fun a2 a4 a5 a6 => zAI l a l.length 0 a2 a4 a5 a6 (by omega) (by omega);simp only [Int.natCast_zero] at h;simp -implicitDefEqProofs only [go_sem] at h;simp -implicitDefEqProofs only [go_sem,zcS,h]
def zBE (v : Int) : Int × Int:=if v ≤ 3 then (64,1) else (32,1)
def zvd : List POp:=[zCF 2 4,zCP 1 3 1 2,ldO 32 4 1,ldO 32 5 3]
theorem zA2 : MTo zBE 2 zvd 6 :=
 .val (zAC zBE 64 2 4 rfl (by omega) (by omega) (by omega) (by omega) (zDi (by omega) (by omega)) rfl) rfl (by omega) rfl <|
 .val (zBv zBE 1 64 3 1 2 rfl rfl (by omega) (by omega) (by omega) (by omega) (by omega) (by omega) rfl rfl rfl) rfl (by omega) rfl <|
 .val (ztK zBE 32 4 1 rfl (by omega) (by omega) (by omega) (by omega) (by omega) rfl rfl) rfl (by omega) rfl <|
 .val (ztK zBE 32 5 3 rfl (by omega) (by omega) (by omega) (by omega) (by omega) rfl rfl) rfl (by omega) rfl <|
 .nil _ _
abbrev awF : PFunc:=zf7 [64] 32 zvd 5
def awM : zmn:=opsOf [] awF.blocks
theorem am1 : getM 1 awM = none:=rfl
theorem am2 : getM 2 awM = some (zCF 2 4):=rfl
theorem am3 : getM 3 awM = some (zCP 1 3 1 2):=rfl
theorem ao1 (n : Nat) (M : zpf) (h : getM 1 M = none) : zh3 awM (n + 1) M 1 = some (([(1,1)],0),zfV 1 ([(1,1)],0) M):=by
 simp [zh3,zqU,h,am1,zj9]
theorem ao2 (n : Nat) (M : zpf) (h : getM 2 M = none) : zh3 awM (n + 1) M 2 = some (([],4),zfV 2 ([],4) M):=by
 simp [zh3,zqU,h,am2,zj9,zCF]
theorem ao3 (n : Nat) : ∃ M',zh3 awM (n + 2) [] 3 = some (([(1,1)],4),M'):=by
 have e2 : getM 2 (zfV 1 (([(1,1)],0) : zbw) []) = none:=rfl;refine ⟨zfV 3 ([(1,1)],4) (zfV 2 ([],4) (zfV 1 ([(1,1)],0) [])),?_⟩;rw [zh3];simp only [getM,zqU,am3,zCP,ao1 n [] rfl,yo,ao2 n _ e2];simp [zDo 4 (by omega) (by omega),zj9]
set_option maxRecDepth 10000 in
theorem zrR : call T 37 [] [] = some (vB true,[]):=by
 rw [zd (fn:=zcK) rfl]
 obtain ⟨R,i⟩:=zyQ (sh:=zBE) (ps:=[64]) (ret:=32) (ops:=zvd) (arg:=5) (d:=2) (e:=6) rfl rfl (by simp) rfl (fun q o => by
  have : q = 0:=by simp at o; omega
  subst this
  rfl) zA2 (by simp [zvd]) (by omega) (by omega) (by omega) rfl
 have c:=zwd R (i 1 (by omega) (by omega)) ⟨_,ao1 0 [] rfl⟩;have g:=zwd R (i 3 (by omega) (by omega)) (ao3 0);have t32:=zsB R (a:=3) (b:=2) (m:=4) (n:=4) rfl rfl (.inl rfl) (.inl rfl) rfl rfl rfl rfl rfl rfl (by omega) (by omega) g c (by simp);have t23:=zsB R (a:=2) (b:=3) (m:=4) (n:=4) rfl rfl (.inl rfl) (.inl rfl) rfl rfl rfl rfl rfl rfl (by omega) (by omega) c g (by simp);have t22:=zsB R (a:=2) (b:=2) (m:=4) (n:=4) rfl rfl (.inl rfl) (.inl rfl) rfl rfl rfl rfl rfl rfl (by omega) (by omega) c c (by simp);have hA:=t32.hA;have d32:=zqd t32;have f32:=zlE t32;have a32:=zov t32;have f23:=zlE t23;have a22:=zov t22;have f:=zrd R 0 (by simp [zf7]);have j : zcI 0 (zf7 [64] 32 zvd 5).blocks[0].ops = [2,3]:=rfl;rw [j] at f;have h:=zxE [2,3] (by simp);have l : IntKind.u64.wrap (0 - 4) = 18446744073709551612:=by decide
 have k : IntKind.u64.wrap (0 - 18446744073709551612) = 4:=by decide
 have r : IntKind.u64.wrap (4 - 0) = 4:=by decide
 have p : IntKind.u64.wrap (0 - 0) = 0:=by decide
 simp only [l,k,r,p,if_true,decide_true,Bool.true_and,Int.reduceEq,Int.reduceLE,decide_false,Bool.and_self,Bool.and_true,Bool.and_false] at d32 f32 a32 f23 a22;simp -implicitDefEqProofs only [go_sem,zf7,zvd,zCF,zCP,ldO,yA,List.map_nil,rb,ro,ri,ei,eu,eI,Int.cast_ofNat_Int] at hA d32 f32 a32 f23 a22 f h;simp -implicitDefEqProofs only [go_sem,zcK,hA,d32,f32,a32,f23,a22,f,h,beq_self_eq_true]
end AC

/- A part of the proof of AliasTells. Conditions: none. -/
import Derived.Test.YtmkncmffaaninaaGreatLAV
import Derived.Test.YtmkncmffaaninaaGreatLAU
import Derived.Test.YtmkncmffaaninaaGreatLAT
import Derived.Test.YtmkncmffaaninaaGreatLAO
import Derived.Test.YtmkncmffaaninaaGreatLAH
import Derived.Sort.Grow
import Derived.Lib.SlicesCompact
set_option linter.all false
open List renaming length_map → ya,getElem?_eq_some_iff → yb,getElem?_eq_getElem → yd,getElem_mem → yg,mem_of_getElem? → yi,drop_eq_getElem_cons → yl,length_cons → ym,all_eq_true → yn,replicate → yo,getElem?_set_self → yp,set_getElem_self → yq,getElem?_set_ne → yt,mem_append → yu,length_nil → yv,drop_zero → yz,map_nil → yA,drop_of_length_le → yB,map_cons → yC,singleton_append → yD,getElem?_eq_none → yE,length_replicate → yF,nil_append → yG,length_set → yH,mem_singleton → yJ,mem_cons → yM,append_assoc → yN,not_mem_nil → yO,append_nil → yP
open Int renaming eq_ofNat_of_zero_le → yc,toNat_natCast → yf,natCast_zero → yh,lt_irrefl → yr,emod_eq_of_lt → yL
open Bool renaming and_eq_true → ye,false_eq_true → yK
open Option renaming bind_some → yj,bind_eq_some_iff → yk
open Nat renaming zero_add → yw
open Array renaming getElem?_eq_some_iff → yx,getElem?_append_left → yy,getElem?_modify → yI
namespace AC
open Go Go.A Go.A.Lex
structure MOp (sh : Int → Int × Int) (o : POp) (d : Int) : Prop where
 may : zeO o = true
 zh5 : zh5 o = true
 gives : (o.dst = d ∧ zJ o = sh d ∧ 0 < (sh d).1) ∨ zJ o = (0,0)
 takes : zaa o = o.args.map sh
 args : ∀ a ∈ o.args,1 ≤ a ∧ a < d
 ok : ztZ o
def nxt (d : Int) (o : POp) : Int:=if (zJ o).1 ≤ 0 then d else d + 1
def zCf (sh : Int → Int × Int) : Int → List POp → Prop
 | _,[] => True
 | d,o :: r => MOp sh o d ∧ zCf sh (nxt d o) r
def zx1 : Int → List POp → Int
 | d,[] => d
 | d,o :: r => zx1 (nxt d o) r
theorem zJ8 (d : Int) (o : POp) : d ≤ nxt d o:=by unfold nxt; split <;> omega
def zLE (x : PDef) (at' : Int) : Prop:=x.block = -1 ∨ (x.block = 0 ∧ x.at' < at')
structure LnInv (sh : Int → Int × Int) (k : Int) (d : Int) (D : ziO) : Prop where
 there : ∀ v,1 ≤ v → v < d → ∃ x,getM v D = some x ∧ x.shape = sh v ∧ zLE x k
 none' : ∀ v,d ≤ v → getM v D = none
def zJT (D : ziO) (u : Use) : Prop:=u.block = 0 ∧ ∃ x,getM u.v D = some x ∧ x.shape = u.shape ∧ zLE x u.at'
theorem ztb (sh : Int → Int × Int) : ∀ (ops : List POp) (k : Nat) (d : Int) (D : ziO),1 ≤ d → zCf sh d ops → LnInv sh k d D →
  ∃ D',zgv 0 k D ops = (D',none) ∧ LnInv sh (k + ops.length : Nat) (zx1 d ops) D' ∧ (∀ v,v < d → getM v D' = getM v D) ∧ ∀ u ∈ zk 0 k ops,zJT D' u
 | [],k,d,D,_,_,hD => ⟨D,rfl,hD,fun _ _ => rfl,fun u h => by simp [zk] at h⟩
 | o :: r,k,d,D,hd,hl,hD => by
   obtain ⟨i,w⟩:=hl
   have a : ∃ g,LnInv sh (k + 1 : Nat) (nxt d o) g ∧ (∀ v,v < d → getM v g = getM v D) ∧ zgv 0 k D (o :: r) = zgv 0 (k + 1) g r:=by
    rcases i.gives with ⟨j,m,E⟩ | n
    ·have s : (getM o.dst D).isNone = true:=by rw [j,hD.none' _ (by omega)]; rfl
     have B : nxt d o = d + 1:=(by unfold nxt; rw [m,if_neg (by omega)]);refine ⟨zjb o.dst ⟨0,k,zJ o⟩ D,⟨fun v b l => ?_,fun v b => ?_⟩,fun v b => ?_,?_⟩
     ·rw [zhl,j]
      by_cases c : d = v
      ·rw [if_pos c]
       exact ⟨_,rfl,by rw [m,c],.inr ⟨rfl,by simp only []; omega⟩⟩
      ·rw [if_neg c]
       obtain ⟨x,e1,e2,e3⟩:=hD.there v b (by omega);exact ⟨x,e1,e2,e3.imp id fun e => ⟨e.1,by omega⟩⟩
     ·rw [zhl,j,if_neg (by omega)]
      exact hD.none' v (by omega)
     ·rw [zhl,j,if_neg (by omega)]
     ·rw [zgv,if_neg (by rw [m]; omega),if_pos s]
    ·have B : nxt d o = d:=by unfold nxt; rw [n,if_pos (by simp)]
     refine ⟨D,⟨fun v b l => ?_,fun v b => ?_⟩,fun v _ => rfl,?_⟩
     ·obtain ⟨x,e1,e2,e3⟩:=hD.there v b (by omega)
      exact ⟨x,e1,e2,e3.imp id fun e => ⟨e.1,by omega⟩⟩
     ·exact hD.none' v (by omega)
     ·rw [zgv,if_pos (by rw [n]; simp)]
   obtain ⟨g,y,p,z⟩:=a;have s:=zJ8 d o;obtain ⟨D',i1,i2,i3,i4⟩:=ztb sh r (k + 1) (nxt d o) g (by omega) w y;refine ⟨D',by rw [z,i1],?_,fun v b => by rw [i3 v (by omega),p v b],fun u hu => ?_⟩
   ·rw [ym,show k + (r.length + 1) = k + 1 + r.length from by omega]
    exact i2
   ·rw [zk,yu] at hu
    rcases hu with hu | hu
    ·obtain ⟨q,C,rfl⟩:=ztj o 0 k (zaa o) 0 u hu
     have hlen : (zaa o).length = o.args.length:=(by rw [i.takes,ya]);have f : q < o.args.length:=(by omega);have hm:=i.args o.args[q] (yg f);have A : (zaa o)[q] = sh o.args[q]:=(by simp [i.takes]);have t : o.args.getD (0 + q) 0 = o.args[q]:=(by simp [f]);obtain ⟨x,e1,e2,e3⟩:=hD.there _ hm.1 hm.2;refine ⟨rfl,x,?_,?_,e3⟩
     ·simp only [t]
      rw [i3 _ (by omega),p _ hm.2];exact e1
     ·simp only [A]
      exact e2
    ·exact i4 u hu
theorem zoF (sh : Int → Int × Int) {P : POp → Prop} (a : ∀ o d,MOp sh o d → P o) : ∀ (ops : List POp) (d : Int),zCf sh d ops → ∀ o ∈ ops,P o
 | [],_,_,o,h => by simp at h
 | x :: r,d,hl,o,h => by
   rcases yM.1 h with rfl | h
   ·exact a _ _ hl.1
   ·exact zoF sh a r _ hl.2 o h
theorem zs8 (sh : Int → Int × Int) : ∀ (ps : List Int) (i : Nat) (D : ziO),(∀ q,∀ h : q < ps.length,sh ((i + q : Nat) + 1) = (ps[q],1)) → LnInv sh 0 (i + 1) D → LnInv sh 0 ((i + ps.length : Nat) + 1) (zb4 i D ps)
 | [],i,D,_,h => h
 | b :: r,i,D,hs,h => by
   have e:=hs 0 (by simp)
   have:=zs8 sh r (i + 1) (zjb ((i : Int) + 1) ⟨-1,0,(b,1)⟩ D) (fun q d => by
    have:=hs (q + 1) (by simpa using d);rw [show i + 1 + q = i + (q + 1) from by omega]
    simpa using this) ⟨fun v a f => by
     rw [zhl]
     by_cases c : (i : Int) + 1 = v
     ·rw [if_pos c]
      refine ⟨_,rfl,?_,.inl rfl⟩;rw [← c];simpa using e.symm
     ·rw [if_neg c]
      exact h.there v a (by omega),fun v a => by
     rw [zhl,if_neg (by omega)]
     exact h.none' v (by omega)⟩
   rw [ym,show i + (r.length + 1) = i + 1 + r.length from by omega];exact this
theorem zxJ (sh : Int → Int × Int) (ps : List Int) (ret : Int) (ops : List POp) (arg : Int) (f : ps.all zhe = true) (L : ps.length ≤ 16) (a : zhe ret = true)
  (A : ∀ q,∀ h : q < ps.length,sh ((q : Nat) + 1) = (ps[q],1)) (l : zCf sh (ps.length + 1) ops) (hlen : ops.length ≤ 500) (H : 1 ≤ arg) (z : arg < zx1 (ps.length + 1) ops) (N : num arg = true) (n : sh arg = (ret,1)) :
  okF (zjX ps ret ops arg) ∧ ziQ (zjX ps ret ops arg) 2 [-1] = 0 ∧ ∀ v : Int,1 ≤ v → v < zx1 (ps.length + 1) ops → getM v (zer (zjX ps ret ops arg)) = some (sh v):=by
 have c : ∀ b,zhe b = true → num b = true:=fun b g => by simp only [num,ye,decide_eq_true_eq]; rcases zaW g with h | h | h | h | h <;> omega
 have D : ¬ ret = 0:=by rcases zaW a with h | h | h | h | h <;> omega
 have J : okF (zjX ps ret ops arg):=by
  refine ⟨by simp [zjX]; omega,by simp [zjX],fun x k => ?_,by simp [zjX]; omega⟩;simp only [zjX,yJ] at k;subst k;exact ⟨by simp,by simpa using (by omega : ops.length ≤ 4294967296),by simp,zoF sh (fun o d h => h.ok) ops _ l,by simp⟩
 have I : zm8 (zjX ps ret ops arg) = true:=by
  have C : ziR (zjX ps ret ops arg) = 1 + ops.length:=by simp [ziR,zjX]
  have s : ops.all zh5 = true:=yn.2 (zoF sh (fun o d h => h.zh5) ops _ l);have r : num 0 = true:=rfl;have m : ps.all num = true:=yn.2 fun b g => c b (yn.1 f b g);unfold zm8;rw [C];have hd : ¬ 512 < 1 + ops.length:=by omega
  have w : ¬ 16 < ps.length:=by omega
  simp only [zjX,zsq,zpJ,s,N,r,c ret a,m,zgf,hd,w,ym,yv,List.all_cons,List.all_nil];rfl
 have K : zfB (zjX ps ret ops arg) 2 = true:=by
  have s : ops.all (ofS 2) = true:=yn.2 (zoF sh (fun o d h => by simp [ofS,h.may]) ops _ l);simp [zfB,zjX,zkV,a,s];exact fun x k => yn.1 f x k
 have E:=zs8 sh ps 0 [] (fun q h => by simpa using A q h) ⟨fun v G y => by omega,fun _ _ => rfl⟩;rw [yw] at E;obtain ⟨j,G,y,_,O⟩:=ztb sh ops 0 (ps.length + 1) (zb4 0 [] ps) (by omega) l E;have i : zj4 (zjX ps ret ops arg) = (j,none):=by rw [zF1,G]
 have B : ∀ u ∈ zdU (zjX ps ret ops arg),zJT j u:=fun u hu => by
  rw [zFa,yu] at hu;rcases hu with hu | hu
  ·exact O u hu
  ·rw [if_neg D,yJ] at hu
   subst hu;obtain ⟨x,e1,e2,e3⟩:=y.there arg H z;exact ⟨rfl,x,e1,by rw [e2,n],e3.imp id fun e => ⟨e.1,by simp only [zlu]; omega⟩⟩
 refine ⟨J,?_,fun v M p => ?_⟩
 ·have e1 : zab (zkR j) (zdU (zjX ps ret ops arg)) = 0:=zkw _ _ fun u hu => by
   obtain ⟨_,x,h,_⟩:=B u hu;simp [zkR,h]
  have e2 : zab (zbS j) (zdU (zjX ps ret ops arg)) = 0:=zkw _ _ fun u hu => by
   obtain ⟨_,x,h,C,_⟩:=B u hu;simp [zbS,zk6,h,C]
  have e3 : zab (za0 j [-1]) (zdU (zjX ps ret ops arg)) = 0:=zkw _ _ fun u hu => by
   obtain ⟨g,x,h,_,hd⟩:=B u hu;rcases hd with hd | ⟨hd,t⟩
   ·simp [za0,zk6,h,hd]
   ·simp [za0,zk6,h,g,hd,t]
  rw [ziQ,I,zDS,K,i];simp [e1,e2,e3]
 ·obtain ⟨x,e1,e2,_⟩:=y.there v M p
  rw [zer,zoV v (zj4 (zjX ps ret ops arg)).1 [] (ztJ _),i];simp only [e1,e2]
theorem zim {v : Int} (b : 1 ≤ v) (a : v ≤ 1023) : num v = true:=by simp only [num,ye,decide_eq_true_eq]; omega
theorem zmu {v : Int} (b : 1 ≤ v) (a : v ≤ 1023) : value v = true:=by simp only [value,ye,decide_eq_true_eq]; omega
theorem zIh {b : Int} (h : zhe b = true) : num b = true:=by simp only [num,ye,decide_eq_true_eq]; rcases zaW h with h | h | h | h | h <;> omega
theorem zFT {b : Int} (h : zhe b = true) : 0 < b:=by rcases zaW h with h | h | h | h | h <;> omega
theorem zjp {b : Int} (h : zhe b = true) : zdS b 1 = true:=by simp [zdS,h]
section
variable (sh : Int → Int × Int)
theorem zHH (w d n : Int) (hw : zhe w = true) (b : 1 ≤ d) (e : d ≤ 1023) (g : 0 ≤ n) (h : n < 18446744073709551616) (i : zzU n w = n) (a : sh d = (w,1)) : MOp sh ⟨0,w,1,d,[],n⟩ d:=by
 have c : zdr 0 = false:=rfl;have hm : zeO ⟨0,w,1,d,[],n⟩ = true:=by simp [zeO,zr,i,zmu b e,zjp hw,c]
 refine ⟨hm,?_,.inl ⟨rfl,?_,by rw [a]; exact zFT hw⟩,?_,by simp,⟨⟨g,h⟩,by simp⟩⟩
 ·have n0 : num 0 = true:=rfl
  have f : num 1 = true:=rfl;simp [zh5,zim b e,n0,f,zIh hw,zgf]
 ·rw [zJ,hm,a]
  simp [c]
 ·rw [zaa,if_pos hm]
  simp [zr]
theorem zIa (k w d a b : Int) (j : (arith k || asks k) = true) (hw : zhe w = true) (r : 1 ≤ d) (o : d ≤ 1023) (g : 1 ≤ a) (i : a < d) (e : 1 ≤ b) (m : b < d)
  (y : sh a = (w,1)) (u : sh b = (w,1)) (q : sh d = if 10 ≤ k then (1,1) else (w,1)) : MOp sh ⟨k,w,1,d,[a,b],0⟩ d:=by
 have h : 1 ≤ k ∧ k ≤ 12:=by
  simp only [arith,asks,Bool.or_eq_true,decide_eq_true_eq] at j;omega
 have n : ¬ k = 0:=by omega
 have l : zdr k = false:=by simp only [zdr,Bool.or_eq_false_iff,decide_eq_false_iff_not]; omega
 have p : zr ⟨k,w,1,d,[a,b],0⟩ = ([(w,1),(w,1)],true):=by
  cases c : arith k
  ·rw [c,Bool.false_or] at j
   simp [zr,n,c,j]
  ·simp [zr,n,c]
 have hm : zeO ⟨k,w,1,d,[a,b],0⟩ = true:=by simp [zeO,p,zmu r o,zjp hw,l,zmu g (by omega),zmu e (by omega)]
 refine ⟨hm,?_,.inl ⟨rfl,?_,?_⟩,?_,?_,⟨⟨by simp,by simp⟩,by simp⟩⟩
 ·have t : num 1 = true:=rfl
  have v : num k = true:=by simp only [num,ye,decide_eq_true_eq]; omega
  simp [zh5,zim r o,v,zim g (by omega),zim e (by omega),t,zIh hw,zgf]
 ·have f : ¬ k = 22:=by omega
  rw [zJ,hm,q]
  by_cases c : 10 ≤ k
  ·simp [l,c,h.2]
  ·simp [l,c,f]
 ·rw [q]
  split
  ·simp
  ·exact zFT hw
 ·rw [zaa,if_pos hm,p]
  simp [y,u]
 ·intro x s
  simp only [yM,yO,or_false] at s;rcases s with rfl | rfl
  ·exact ⟨g,i⟩
  ·exact ⟨e,m⟩
theorem zzh (w d a : Int) (hw : zhe w = true) (c : 8 ≤ w) (g : 1 ≤ d) (j : d ≤ 1023) (e : 1 ≤ a) (b : a < d) (n : sh a = (64,1)) (f : sh d = (w,1)) : MOp sh ⟨16,w,1,d,[a],0⟩ d:=by
 have i : zdr 16 = false:=rfl;have k : zr ⟨16,w,1,d,[a],0⟩ = ([(64,1)],true):=by simp [zr,arith,asks,c]
 have hm : zeO ⟨16,w,1,d,[a],0⟩ = true:=by simp [zeO,k,zmu g j,zjp hw,i,zmu e (by omega)]
 refine ⟨hm,?_,.inl ⟨rfl,?_,by rw [f]; exact zFT hw⟩,?_,?_,⟨⟨by simp,by simp⟩,by simp⟩⟩
 ·have l : num 1 = true:=rfl
  have m : num 16 = true:=rfl;simp [zh5,zim g j,m,zim e (by omega),l,zIh hw,zgf]
 ·rw [zJ,hm,f]
  simp [i]
 ·rw [zaa,if_pos hm,k]
  simp [n]
 ·intro x h
  simp only [yM,yO,or_false] at h;subst h;exact ⟨e,b⟩
theorem zqV (w d a b : Int) : nxt d ⟨17,w,1,0,[a,b],0⟩ = d:=by
 have c : zdr 17 = true:=rfl;have : zJ ⟨17,w,1,0,[a,b],0⟩ = (0,0):=by rw [zJ,if_pos (.inr c)]
 rw [nxt,this,if_pos (by simp)]
theorem zJ6 {o : POp} {d : Int} (h : MOp sh o d) (hd : o.dst = d) (e : d ≠ 0) (a : zdr o.kind = false) : nxt d o = d + 1:=by
 rcases h.gives with ⟨_,g,c⟩ | g
 ·rw [nxt,g,if_neg (by omega)]
 ·exfalso
  have b : 0 < o.bits:=by
   have:=h.may;simp only [zeO,ye] at this;exact zFT (zcI this.1).1
  rw [zJ,h.may,a] at g;simp only [Bool.true_eq_false,yK,or_self,if_false] at g;split at g
  ·simp at g
  ·split at g
   ·have:=congrArg Prod.fst g
    simp only [] at this;omega
   ·have:=congrArg Prod.fst g
    simp only [] at this;omega
end
structure RightF (f : PFunc) (tree : List Int) : Prop where
 ok : okF f
 isT : zm6 f tree
 look : ziQ f 2 tree = 0
def MTo (sh : Int → Int × Int) (d : Int) (ops : List POp) (e : Int) : Prop:=zCf sh d ops ∧ zx1 d ops = e
theorem MTo.nil (sh : Int → Int × Int) (d : Int) : MTo sh d [] d:=⟨trivial,rfl⟩
theorem MTo.val {sh : Int → Int × Int} {d e : Int} {o : POp} {r : List POp} (h : MOp sh o d) (hd : o.dst = d) (f : d ≠ 0) (c : zdr o.kind = false) (b : MTo sh (d + 1) r e) : MTo sh d (o :: r) e:=by
 have a:=zJ6 sh h hd f c;exact ⟨⟨h,by rw [a]; exact b.1⟩,by rw [zx1,a]; exact b.2⟩
theorem MTo.st {sh : Int → Int × Int} {d e w a b : Int} {r : List POp} (h : MOp sh ⟨17,w,1,0,[a,b],0⟩ d) (c : MTo sh d r e) : MTo sh d (⟨17,w,1,0,[a,b],0⟩ :: r) e:=by
 have f:=zqV d w a b;exact ⟨⟨h,by rw [zqV]; exact c.1⟩,by rw [zx1,zqV]; exact c.2⟩
theorem MTo.app {sh : Int → Int × Int} : ∀ {a : List POp} {d m e : Int} {b : List POp},MTo sh d a m → MTo sh m b e → MTo sh d (a ++ b) e
 | [],d,m,e,b,h,h' => by
   have : d = m:=h.2;subst this;exact h'
 | o :: r,d,m,e,b,h,h' => by
   have:=MTo.app (a:=r) (d:=nxt d o) ⟨h.1.2,h.2⟩ h';exact ⟨⟨h.1.1,this.1⟩,this.2⟩
theorem zG5 {sh : Int → Int × Int} {ps : List Int} {ret : Int} {ops : List POp} {arg d e : Int} (hd : (ps.length : Int) + 1 = d) (b : ps.all zhe = true) (c : ps.length ≤ 16) (a : zhe ret = true)
  (g : ∀ q,∀ h : q < ps.length,sh ((q : Nat) + 1) = (ps[q],1)) (i : MTo sh d ops e) (hlen : ops.length ≤ 500) (k : 1 ≤ arg) (f : arg < e) (m : arg ≤ 1023) (j : sh arg = (ret,1)) :
  RightF (zjX ps ret ops arg) [-1] ∧ ∀ v : Int,1 ≤ v → v < e → getM v (zer (zjX ps ret ops arg)) = some (sh v):=by
 subst hd;obtain ⟨i,he⟩:=i;subst he;obtain ⟨o,l,n⟩:=zxJ sh ps ret ops arg b c a g i hlen k f (zim k m) j;exact ⟨⟨o,zFt ps ret ops arg,l⟩,n⟩
def zba (k : Int) : Int:=if k = 16 ∨ k = 17 then 0 else if k = 18 ∨ k = 19 then 1 else -1
theorem zhT (k : Int) : call T 97 [vI k] [] = some (vI (zba k),[]):=by
 rw [ze (fn:=zeb) rfl]
 by_cases c1 : k = 16
 ·simp -implicitDefEqProofs only [go_sem,zeb,zba,c1]
 by_cases c2 : k = 17
 ·simp -implicitDefEqProofs only [go_sem,zeb,zba,c1,c2]
 by_cases c3 : k = 18
 ·simp -implicitDefEqProofs only [go_sem,zeb,zba,c1,c2,c3]
 by_cases c4 : k = 19
 ·simp -implicitDefEqProofs only [go_sem,zeb,zba,c1,c2,c3,c4]
 simp -implicitDefEqProofs only [go_sem,zeb,zba,c1,c2,c3,c4]
section
variable {f : PFunc} {tree : List Int} (R : RightF f tree)
include R
theorem zkY (block : Nat) (c : block < f.blocks.length) : call T 88 [za9 f,vI block] [] = some (vB true,[]):=by
 rw [ze (fn:=zd0) rfl];have a:=zsT f R.ok 2 tree R.isT;have b : zna f 2 tree = 0:=by rw [zna,if_neg (by omega)]; exact R.look
 rw [b] at a;have h1 : ((block : Int) < (f.blocks.length : Int)) = True:=by simp; omega
 simp -implicitDefEqProofs only [go_sem] at a;simp -implicitDefEqProofs only [go_sem,zd0,a,h1,Int.natCast_nonneg,ya]
end
theorem zoA (b : PBlock) (at' : Nat) (o : POp) (h : b.ops[at']? = some o) (i : o.kind = 16 ∨ o.kind = 17) (l : o.lanes = 1) (v : Int) (r : List Int) (k : o.args = v :: r) (m : Int) (hm : o.bits = 8 * m) (n : 0 ≤ m) (h1 : m ≤ 1000) :
  call T 89 [zr8 b,vI at'] [] = some (.tup [vI v,vI m,vB true],[]):=by
 rw [ze (fn:=zbj) rfl];have d : at' < b.ops.length:=(yb.1 h).1;have he : b.ops[at'] = o:=(yb.1 h).2;have e:=zhT o.kind;have f : zba o.kind = 0:=by unfold zba; rw [if_pos i]
 rw [f] at e;have hw : IntKind.i64.wrap (1 * (8 * m)) = 8 * m:=by rw [wrap_i64] <;> omega
 have c : IntKind.i64.wrap m = m:=by rw [wrap_i64] <;> omega
 have j : (8 * m).tdiv 8 = m:=by rw [Int.mul_tdiv_cancel_left _ (by decide)]
 have g : ((at' : Int) < 0) = False:=by simp
 have a : ((b.ops.length : Int) ≤ (at' : Int)) = False:=by simp; omega
 simp -implicitDefEqProofs only [go_sem] at e;simp -implicitDefEqProofs only [go_sem,zbj,g,a,zt d,he,ro,ri,e,l,hm,hw,c,j,k,ya,yC]
section
variable {f : PFunc} {tree : List Int} (R : RightF f tree)
include R
theorem zi7 (block : Nat) (a : block < f.blocks.length) (at' : Nat) (o : POp) (e : f.blocks[block].ops[at']? = some o) (h : o.kind = 16 ∨ o.kind = 17) (g : o.lanes = 1) (v : Int) (r : List Int) (d : o.args = v :: r) (m : Int) (hm : o.bits = 8 * m) (i : 0 ≤ m) (h1 : m ≤ 1000) :
  call T 38 [za9 f,vI block,vI at'] [] = some (.tup [vI v,vI m,vB true],[]):=by
 rw [ze (fn:=zdJ) rfl];have b:=zkY R block a;have c:=zoA f.blocks[block] at' o e h g v r d m hm i h1;simp -implicitDefEqProofs only [go_sem] at b c;simp -implicitDefEqProofs only [go_sem,zdJ,b,zt a,rb,c]
omit R in
theorem zlG (d m n x : Int) (o : Ob) (r : zd) : call T 92 [zf4 d,zf4 m,zf4 n,.one (.ptr 1 0 0 0)] (o :: .cells 0 1 [[.f (eu x)]] :: r) = some (vB true,o :: .cells 0 1 [[.f (eu d)]] :: r):=by
 rw [ze (fn:=zgR) rfl];simp -implicitDefEqProofs only [go_sem,zgR]
omit R in
theorem zmV (d m n : Int) (σ : zd) : call T 96 [zf4 d,zf4 m,zf4 n] σ = some (vB (decide (d = m)),σ):=by
 rw [ze (fn:=zg3) rfl];simp -implicitDefEqProofs only [go_sem,zg3]
omit R in
theorem zp1 (d m n : Int) (σ : zd) : call T 95 [zf4 d,zf4 m,zf4 n] σ = some (vB (decide (m ≤ d) && decide (n ≤ IntKind.u64.wrap (0 - d))),σ):=by
 rw [ze (fn:=zgG) rfl]
 by_cases c : m ≤ d
 ·simp -implicitDefEqProofs only [go_sem,zgG,c]
 ·simp -implicitDefEqProofs only [go_sem,zgG,c]
structure TwoT (f : PFunc) (block : Int) (a b : Int) (va vb m n : Int) (ra rb' : zQ) : Prop where
 hA : call T 38 [za9 f,vI block,vI a] [] = some (.tup [vI va,vI m,vB true],[])
 hB : call T 38 [za9 f,vI block,vI b] [] = some (.tup [vI vb,vI n,vB true],[])
 oA : call T 33 [za9 f,vI va] [] = some (.tup [vFm ra,vI 0],[])
 oB : call T 33 [za9 f,vI vb] [] = some (.tup [vFm rb',vI 0],[])
 m0 : 0 ≤ m ∧ m ≤ 1000
 n0 : 0 ≤ n ∧ n ≤ 1000
 la : ra.1.length ≤ 1000
omit R in
theorem zuK {block a b va vb m n : Int} {ra rb' : zQ} (h : TwoT f block a b va vb m n ra rb') : call T 40 [za9 f,vI block,vI a,vI b] [] =
  some (.tup [zf4 (if ra.1 = rb'.1 then IntKind.u64.wrap (rb'.2 - ra.2) else 0),vB (decide (ra.1 = rb'.1))],[]):=by
 rw [ze (fn:=zej) rfl];obtain ⟨hA,hB,oA,oB,m0,n0,la⟩:=h;have hE:=zmD ra.1 rb'.1 (by omega);have w1 : IntKind.u64.wrap m = m:=wrap_u64 (by omega) (by omega);have w2 : IntKind.u64.wrap n = n:=wrap_u64 (by omega) (by omega);have h1:=fun r => zlG (IntKind.u64.wrap (rb'.2 - ra.2)) m n 0 (.cells 0 3 [zaP f]) r
 have hw : ∀ σ,σ = [Ob.cells 0 3 [zaP f],.cells 0 1 [[.f (eu 0)]]] → call T 91 [za9 f,vI block,vI a,vI b,.one (.fn 92 [] [.ptr 1 0 0 0])] σ =
   some (vB (decide (ra.1 = rb'.1)),[Ob.cells 0 3 [zaP f],.cells 0 1 [[.f (eu (if ra.1 = rb'.1 then IntKind.u64.wrap (rb'.2 - ra.2) else 0))]]]):=by
  rintro σ rfl;rw [ze (fn:=zac) rfl];simp -implicitDefEqProofs only [go_sem,vFm,fF] at hA hB oA oB hE h1
  by_cases c : ra.1 = rb'.1
  ·simp -implicitDefEqProofs only [go_sem,zac,hA,hB,oA,oB,hE,w1,w2,eq_true c,h1]
  ·simp -implicitDefEqProofs only [go_sem,zac,hA,hB,oA,oB,hE,w1,w2,c]
 have hw':=hw _ rfl;simp -implicitDefEqProofs only [go_sem] at hw';simp -implicitDefEqProofs only [go_sem,zej,hw']
omit R in
theorem zwz {block a b va vb m n : Int} {ra rb' : zQ} (h : TwoT f block a b va vb m n ra rb') (g : Nat) (p : Int → Int → Int → Bool) (hg : ∀ d m n σ,call T g [zf4 d,zf4 m,zf4 n] σ = some (vB (p d m n),σ)) :
  call T 91 [za9 f,vI block,vI a,vI b,.one (.fn g [] [])] [.cells 0 3 [zaP f]] = some (vB (decide (ra.1 = rb'.1) && p (IntKind.u64.wrap (rb'.2 - ra.2)) m n),[.cells 0 3 [zaP f]]):=by
 rw [ze (fn:=zac) rfl];obtain ⟨hA,hB,oA,oB,m0,n0,la⟩:=h;have hE:=zmD ra.1 rb'.1 (by omega);have w1 : IntKind.u64.wrap m = m:=wrap_u64 (by omega) (by omega);have w2 : IntKind.u64.wrap n = n:=wrap_u64 (by omega) (by omega);simp -implicitDefEqProofs only [go_sem,vFm,fF] at hA hB oA oB hE hg
 by_cases c : ra.1 = rb'.1
 ·simp -implicitDefEqProofs only [go_sem,zac,hA,hB,oA,oB,hE,w1,w2,eq_true c,hg]
 ·simp -implicitDefEqProofs only [go_sem,zac,hA,hB,oA,oB,hE,w1,w2,c]
omit R in
theorem zqb {block a b va vb m n : Int} {ra rb' : zQ} (h : TwoT f block a b va vb m n ra rb') : call T 44 [za9 f,vI block,vI a,vI b] [] =
  some (vB (decide (ra.1 = rb'.1) && decide (IntKind.u64.wrap (rb'.2 - ra.2) = m)),[]):=by
 rw [ze (fn:=zfs) rfl];have hw:=zwz h 96 (fun d m _ => decide (d = m)) zmV;simp -implicitDefEqProofs only [go_sem] at hw;simp -implicitDefEqProofs only [go_sem,zfs,hw]
omit R in
theorem zsO {block a b va vb m n : Int} {ra rb' : zQ} (h : TwoT f block a b va vb m n ra rb') : call T 42 [za9 f,vI block,vI a,vI b] [] =
  some (vB (decide (ra.1 = rb'.1) && (decide (m ≤ IntKind.u64.wrap (rb'.2 - ra.2)) && decide (n ≤ IntKind.u64.wrap (0 - IntKind.u64.wrap (rb'.2 - ra.2))))),[]):=by
 rw [ze (fn:=zgA) rfl];have hw:=zwz h 95 (fun d m n => decide (m ≤ d) && decide (n ≤ IntKind.u64.wrap (0 - d))) zp1;simp -implicitDefEqProofs only [go_sem] at hw;simp -implicitDefEqProofs only [go_sem,zgA,hw]
end
def zaN : Nat → List POp → List Int
 | _,[] => []
 | k,o :: r => if 0 ≤ zba o.kind then (k : Int) :: zaN (k + 1) r else zaN (k + 1) r
theorem zG8 (l : List Int) (x : Int) : l.map ri ++ [[.lit (.int .i64 x)]] = (l ++ [x]).map ri:=by simp [ri]
theorem zsJ (f : PFunc) (b : PBlock) (g : okB b) : ∀ (d k : Nat) (acc : List Int) a0 a1 a2 a3 a5 a6 a7 a11 a12,b.ops.length - k = d → k ≤ b.ops.length → acc.length ≤ k →
  exec T zf3 ⟨[a0,a1,a2,a3,.one (.ap 1 0 (acc.map ri)),a5,a6,a7,vL (b.ops.map ro),vI b.ops.length,vI k,a11,a12],[.cells 0 3 [zaP f],.tok 1 [acc.length]],0,0⟩ =
   some (.exit 0,⟨[vU,vU,vU,vU,.one (.ap 1 0 ((acc ++ zaN k (b.ops.drop k)).map ri)),vU,vU,vU,vU,vU,vU,vU,vU],[.cells 0 3 [zaP f],.tok 1 [(acc ++ zaN k (b.ops.drop k)).length]],0,0⟩):=by
 intro d
 induction d with
 | zero =>
   intro k acc a0 a1 a2 a3 a5 a6 a7 a11 a12 h1 i j;have a : k = b.ops.length:=(by omega);subst a;rw [xl zf3 rfl,zhJ];simp -implicitDefEqProofs only [go_sem,yr,List.drop_length,zaN,yP]
 | succ d ih =>
   intro k acc a0 a1 a2 a3 a5 a6 a7 a11 a12 h1 i j;have a : k < b.ops.length:=(by omega);have hd : b.ops.drop k = b.ops[k] :: b.ops.drop (k + 1):=yl a;have h:=zhT b.ops[k].kind;have e : acc.length + 1 ≤ LIM:=(by have:=g.ops; unfold LIM; omega);rw [xl zf3 rfl,zhJ,hd,zaN];simp -implicitDefEqProofs only [go_sem] at h
   by_cases c : 0 ≤ zba b.ops[k].kind
   ·have:=ih (k + 1) (acc ++ [(k : Int)]) vU vU vU vU vU vU vU vU vU (by omega) (by omega) (by simp; omega)
    rw [yN,yD,← zG8] at this;simp -implicitDefEqProofs only [go_sem] at this;simp -implicitDefEqProofs only [go_sem,ilt a,zt a,ro,h,c,e,ya,za a g.ops,this]
   ·have:=ih (k + 1) acc vU vU vU vU vU vU vU vU vU (by omega) (by omega) (by omega)
    simp -implicitDefEqProofs only [go_sem] at this;simp -implicitDefEqProofs only [go_sem,ilt a,zt a,ro,h,c,e,ya,za a g.ops,this]
theorem zvR {f : PFunc} {tree : List Int} (R : RightF f tree) (block : Nat) (b : block < f.blocks.length) : call T 45 [za9 f,vI block] [] = some (vIs (zaN 0 f.blocks[block].ops),[]):=by
 rw [ze (fn:=zdM) rfl];have d:=zkY R block b;have q:=fun a0 a1 a2 a3 a5 a6 a7 a c => zsJ f f.blocks[block] (R.ok.block _ (yg b)) f.blocks[block].ops.length 0 [] a0 a1 a2 a3 a5 a6 a7 a c (by omega) (by omega) (by simp);simp only [yz,yh,yA,yG,yv] at q;simp -implicitDefEqProofs only [go_sem] at d q;simp -implicitDefEqProofs only [go_sem,zdM,d,zt b,rb,q,ya]
def zin (f : PFunc) (k : Int) : Bool:=decide (0 ≤ k) && (decide (k < f.blocks.length) && decide (zap f 2 = 0))
theorem zdl {f : PFunc} {k : Int} : zin f k = true ↔ 0 ≤ k ∧ k < f.blocks.length ∧ RightP f 2:=by
 unfold zin;simp only [ye,decide_eq_true_eq,zi8]
def vIv (k : Int) : V:=.one (.f (.lit (.int .i64 k)))
def zyQ (n at' : Nat) (es : List (List C)) (l : List Int) (σ : zd) : zd :=
 (σ.set (1 + at') (.cells l.length 1 (l.map zL))).set (n + 1) (.cells 0 1 (es.set at' [.own (1 + at') l.length 0 l.length]))
structure RInv (n at' : Nat) (D : zJF) (es : List (List C)) (l : List Int) (σ : zd) : Prop where
 len : σ.length ≤ 1000000
 elen : es.length = n
 main : σ[n + 1]? = some (.cells 0 1 es)
 at0 : es[at']? = some [.own (1 + at') l.length 0 l.length]
 row : σ[1 + at']? = some (.cells l.length 1 (l.map zL))
 map : σ[n + 2]? = some (.mp (zgx vIv D))
theorem RInv.step {n at' : Nat} {D : zJF} {es : List (List C)} {l : List Int} {σ : zd} (h : RInv n at' D es l σ) (hat : at' < n) (a : List Int) :
  RInv n at' D (es.set at' [.own (1 + at') a.length 0 a.length]) a (zyQ n at' es a σ):=by
 have b : n + 1 < σ.length:=(yb.1 h.main).1;have c : 1 + at' < σ.length:=(yb.1 h.row).1;unfold zyQ;refine ⟨by simp only [yH]; exact h.len,by rw [yH]; exact h.elen,?_,?_,?_,?_⟩
 ·rw [yp (by simpa using b)]
 ·rw [yp (by rw [h.elen]; exact hat)]
 ·rw [yt (by omega),yp c]
 ·rw [yt (by omega),yt (by omega)]
  exact h.map
theorem RInv.same {n at' : Nat} {D : zJF} {es : List (List C)} {l : List Int} {σ : zd} (h : RInv n at' D es l σ) : zyQ n at' es l σ = σ:=by
 unfold zyQ;obtain ⟨c,he⟩:=yb.1 h.at0;have e1 : es.set at' [.own (1 + at') l.length 0 l.length] = es:=by rw [← he]; exact yq c
 rw [e1]
 have e2 : σ.set (1 + at') (.cells l.length 1 (l.map zL)) = σ:=by
  obtain ⟨b,a⟩:=yb.1 h.row;rw [← a]; exact yq b
 rw [e2];obtain ⟨b,a⟩:=yb.1 h.main;rw [← a]; exact yq b
section
variable (n at' : Nat) (hn : n ≤ 1000) (hat : at' < n) (D : zJF) (args : List Int) (hargs : args.length ≤ 4294967296) (v5 v7 v11 v12 v13 : V)
include hn hat hargs
end
structure HG (n k : Nat) (D : zJF) (imp : List Int) (done : List (List Int)) (σ : zd) : Prop where
 len : σ.length ≤ n + 4 + k
 len2 : n + 4 ≤ σ.length
 dlen : done.length = k
 main : ∃ es,σ[n + 1]? = some (.cells 0 1 es) ∧ es.length = n ∧ (∀ i (h : i < done.length),es[i]? = some [.f (.sl (done[i].map ri))]) ∧ ∀ i,k ≤ i → i < n → es[i]? = some [.own (1 + i) 0 0 0]
 rows : ∀ i,k ≤ i → i < n → σ[1 + i]? = some (.cells 0 1 [])
 map : σ[n + 2]? = some (.mp (zgx vIv D))
 tok : σ[n + 3]? = some (.tok 1 [imp.length])
def zkE (o : POp) : Option (Int × Int):=if 0 ≤ zba o.kind then some (o.args.getD (zba o.kind).toNat 0,(o.lanes * o.bits).tdiv 8) else none
def znk (b : PBlock) (a : Int) : Option (Int × Int):=if 0 ≤ a then (b.ops[a.toNat]?).bind zkE else none
def zaB (f : PFunc) (k a : Int) : Option (Int × Int):=if zin f k = true then (f.blocks[k.toNat]?).bind (znk · a) else none
def zeS : Option (Int × Int) → V
 | some p => .tup [vI p.1,vI p.2,vB true]
 | none => .tup [vI 0,vI 0,vB false]
theorem znH {o : POp} (b : zeO o = true) (d : 0 ≤ zba o.kind) : (zba o.kind).toNat < o.args.length ∧ 0 < (o.lanes * o.bits).tdiv 8 ∧ (o.lanes * o.bits).tdiv 8 ≤ 1000 ∧ 0 ≤ o.lanes * o.bits ∧ o.lanes * o.bits ≤ 1024:=by
 have j:=b;unfold zeO at b;simp only [ye,decide_eq_true_eq] at b;obtain ⟨f,a,_,h,_⟩:=b;obtain ⟨hw,c⟩:=zcI f;have i:=zaW hw
 have g : 8 ≤ o.bits ∧ (zba o.kind).toNat < o.args.length:=by
  unfold zba at d ⊢;rw [← h]
  by_cases c1 : o.kind = 16
  ·simp [zr,arith,asks,c1] at a ⊢; exact a.2
  by_cases c2 : o.kind = 17
  ·simp [zr,arith,asks,c2] at a ⊢; exact a.2
  by_cases c3 : o.kind = 18
  ·simp [zr,arith,asks,c3] at a ⊢; exact a.2.2
  by_cases c4 : o.kind = 19
  ·simp [zr,arith,asks,c4] at a ⊢; exact a.2.2
  ·simp [c1,c2,c3,c4] at d
 refine ⟨g.2,?_⟩
 rcases c with e | e | e | e | e <;> rcases i with q | q | q | q | q <;> rw [e,q] <;> first | decide | omega
theorem znE (b : PBlock) (j : b.ops.length ≤ 4294967296) (hm : ∀ o ∈ b.ops,zeO o = true) (a : Int) : call T 89 [zr8 b,vI a] [] = some (zeS (znk b a),[]):=by
 rw [ze (fn:=zbj) rfl]
 by_cases c1 : a < 0
 ·have e : znk b a = none:=by unfold znk; rw [if_neg (by omega)]
  rw [e];simp -implicitDefEqProofs only [go_sem,zbj,c1,zeS]
 obtain ⟨n,rfl⟩:=yc (show 0 ≤ a by omega);have e0 : znk b n = (b.ops[n]?).bind zkE:=by unfold znk; rw [if_pos (by omega),yf]
 rw [e0]
 by_cases d : n < b.ops.length
 case neg =>
  have c2 : (n : Int) ≥ (b.ops.length : Int):=by omega
  rw [yE (by omega)];simp -implicitDefEqProofs only [go_sem,zbj,c1,ya,eq_true c2,zeS]
 have c2 : ¬ (n : Int) ≥ (b.ops.length : Int):=by omega
 rw [yd d,yj];have h:=hm _ (yg d);have g:=zt (r:=ro) d;have c:=zhT b.ops[n].kind;unfold zkE;generalize b.ops[n] = o at *
 by_cases c3 : 0 ≤ zba o.kind
 case neg =>
  rw [if_neg c3];simp -implicitDefEqProofs only [go_sem,ro] at c g;simp -implicitDefEqProofs only [go_sem,zbj,c1,c2,ya,g,c,ge_iff_le,c3,zeS]
 obtain ⟨f1,f2,f3,f4,f5⟩:=znH h c3;rw [if_pos c3];have i : IntKind.i64.wrap (o.lanes * o.bits) = o.lanes * o.bits:=wrap_i64 (by omega) (by omega);have k : IntKind.i64.wrap ((o.lanes * o.bits).tdiv 8) = (o.lanes * o.bits).tdiv 8:=wrap_i64 (by omega) (by omega);have f : (o.args.map ri)[(zba o.kind).toNat]? = some (ri (o.args.getD (zba o.kind).toNat 0)):=by simp [f1]
 simp -implicitDefEqProofs only [go_sem,ro,ri] at c g f;simp -implicitDefEqProofs only [go_sem,zbj,c1,c2,ya,g,c,ge_iff_le,c3,f,i,k,zeS]
theorem zj0 (f : PFunc) (hf : okF f) (k : Int) : call T 88 [za9 f,vI k] [] = some (vB (zin f k),[]):=by
 rw [ze (fn:=zd0) rfl];have a:=zzX f hf 2;rw [zvw hf] at a;simp -implicitDefEqProofs only [go_sem] at a;unfold zin
 by_cases c1 : 0 ≤ k
 case neg => simp -implicitDefEqProofs only [go_sem,zd0,a,ge_iff_le,c1]
 by_cases c2 : k < f.blocks.length
 case neg => simp -implicitDefEqProofs only [go_sem,zd0,a,ge_iff_le,c1,ya,c2]
 by_cases c3 : zap f 2 = 0 <;> simp -implicitDefEqProofs only [go_sem,zd0,a,ge_iff_le,c1,ya,c2,c3]
theorem zb2 (f : PFunc) (hf : okF f) (k a : Int) : call T 38 [za9 f,vI k,vI a] [] = some (zeS (zaB f k a),[]):=by
 rw [ze (fn:=zdJ) rfl];have b:=zj0 f hf k;unfold zaB
 cases c : zin f k with
 | false =>
   rw [c] at b;simp -implicitDefEqProofs only [go_sem] at b;simp -implicitDefEqProofs only [go_sem,zdJ,b,zeS]
 | true =>
   rw [c] at b;obtain ⟨j,l,h⟩:=zdl.1 c;obtain ⟨n,rfl⟩:=yc j;have d : n < f.blocks.length:=(by omega);have g:=znE f.blocks[n] (hf.block _ (yg d)).ops (fun o i => zeo h.typed (yg d) i) a;have e : ((n : Int) < (f.blocks.length : Int)) = True:=(by simp; omega);rw [yf,yd d,yj];cases q : znk f.blocks[n] a <;> rw [q] at g <;> simp -implicitDefEqProofs only [go_sem,zeS] at b g <;> simp -implicitDefEqProofs only [go_sem,zdJ,b,e,zt d,rb,g,zeS]
theorem zgO {f : PFunc} {k a v m : Int} (h : zaB f k a = some (v,m)) : RightP f 2 ∧ 0 < m ∧ m ≤ 1000:=by
 unfold zaB at h;split at h
 ·rename_i c
  obtain ⟨j,i,d⟩:=zdl.1 c;rw [yk] at h;obtain ⟨b,g,h⟩:=h;unfold znk at h;split at h
  ·rw [yk] at h
   obtain ⟨o,e,h⟩:=h;unfold zkE at h;split at h
   ·rename_i c3
    injection h with h;injection h with h1 h2;have:=znH (zeo d.typed (yi g) (yi e)) c3;exact ⟨d,by omega,by omega⟩
   ·cases h
  ·cases h
 ·cases h
def zlw (X : Int → zQ) (p : Int → Int → Int → Bool) : Option (Int × Int) → Option (Int × Int) → Bool
 | some a,some b => decide ((X a.1).1 = (X b.1).1) && p (IntKind.u64.wrap ((X b.1).2 - (X a.1).2)) a.2 b.2
 | _,_ => false
def zqz (X : Int → zQ) : Option (Int × Int) → Option (Int × Int) → Int
 | some a,some b => if (X a.1).1 = (X b.1).1 then IntKind.u64.wrap ((X b.1).2 - (X a.1).2) else 0
 | _,_ => 0
section
variable (f : PFunc) (hf : okF f) (X : Int → zQ) (c : Int → Int) (hX : RightP f 2 → ∀ v,call T 33 [za9 f,vI v] [] = some (.tup [vFm (X v),vI (c v)],[]) ∧ (X v).1.length ≤ 1000)
include hf hX
theorem ztM (k a b : Int) (g : Nat) (p : Int → Int → Int → Bool) (o : ∀ d m n σ,call T g [zf4 d,zf4 m,zf4 n] σ = some (vB (p d m n),σ)) :
  call T 91 [za9 f,vI k,vI a,vI b,.one (.fn g [] [])] [.cells 0 3 [zaP f]] = some (vB (zlw X p (zaB f k a) (zaB f k b)),[.cells 0 3 [zaP f]]):=by
 rw [ze (fn:=zac) rfl];have e:=zb2 f hf k a;have c:=zb2 f hf k b
 cases eA : zaB f k a with
 | none =>
   rw [eA] at e;cases eB : zaB f k b <;> rw [eB] at c <;> simp -implicitDefEqProofs only [go_sem,zeS] at e c <;> simp -implicitDefEqProofs only [go_sem,zac,e,c,zlw]
 | some A =>
   obtain ⟨v,m⟩:=A;rw [eA] at e;obtain ⟨r,u,m1⟩:=zgO eA
   cases eB : zaB f k b with
   | none =>
     rw [eB] at c;simp -implicitDefEqProofs only [go_sem,zeS] at e c;simp -implicitDefEqProofs only [go_sem,zac,e,c,zlw]
   | some B =>
     obtain ⟨w,n⟩:=B;rw [eB] at c;obtain ⟨_,n0,t⟩:=zgO eB;obtain ⟨j,x⟩:=hX r v;obtain ⟨h,_⟩:=hX r w;have i:=zmD (X v).1 (X w).1 (by omega);have l : IntKind.u64.wrap m = m:=wrap_u64 (by omega) (by omega);have s : IntKind.u64.wrap n = n:=wrap_u64 (by omega) (by omega);simp -implicitDefEqProofs only [go_sem,zeS,vFm,fF] at e c j h i o
     by_cases q : (X v).1 = (X w).1
     ·simp -implicitDefEqProofs only [go_sem,zac,e,c,j,h,i,l,s,eq_true q,o,zlw]
     ·simp -implicitDefEqProofs only [go_sem,zac,e,c,j,h,i,l,s,q,zlw]
theorem zug (k a b : Int) : call T 44 [za9 f,vI k,vI a,vI b] [] = some (vB (zlw X (fun d m _ => decide (d = m)) (zaB f k a) (zaB f k b)),[]):=by
 rw [ze (fn:=zfs) rfl];have hw:=ztM f hf X c hX k a b 96 (fun d m _ => decide (d = m)) zmV;simp -implicitDefEqProofs only [go_sem] at hw;simp -implicitDefEqProofs only [go_sem,zfs,hw]
theorem zxZ (k a b : Int) : call T 42 [za9 f,vI k,vI a,vI b] [] = some (vB (zlw X (fun d m n => decide (m ≤ d) && decide (n ≤ IntKind.u64.wrap (0 - d))) (zaB f k a) (zaB f k b)),[]):=by
 rw [ze (fn:=zgA) rfl];have hw:=ztM f hf X c hX k a b 95 (fun d m n => decide (m ≤ d) && decide (n ≤ IntKind.u64.wrap (0 - d))) zp1;simp -implicitDefEqProofs only [go_sem] at hw;simp -implicitDefEqProofs only [go_sem,zgA,hw]
theorem zsH (k a b : Int) : call T 40 [za9 f,vI k,vI a,vI b] [] = some (.tup [zf4 (zqz X (zaB f k a) (zaB f k b)),vB (zlw X (fun _ _ _ => true) (zaB f k a) (zaB f k b))],[]):=by
 rw [ze (fn:=zej) rfl];have d:=zb2 f hf k a;have c:=zb2 f hf k b
 have hw : ∀ σ,σ = [Ob.cells 0 3 [zaP f],.cells 0 1 [[.f (eu 0)]]] → call T 91 [za9 f,vI k,vI a,vI b,.one (.fn 92 [] [.ptr 1 0 0 0])] σ =
   some (vB (zlw X (fun _ _ _ => true) (zaB f k a) (zaB f k b)),[Ob.cells 0 3 [zaP f],.cells 0 1 [[.f (eu (zqz X (zaB f k a) (zaB f k b)))]]]):=by
  rintro σ rfl;rw [ze (fn:=zac) rfl]
  cases eA : zaB f k a with
  | none =>
    rw [eA] at d;cases eB : zaB f k b <;> rw [eB] at c <;> simp -implicitDefEqProofs only [go_sem,zeS] at d c <;> simp -implicitDefEqProofs only [go_sem,zac,d,c,zlw,zqz]
  | some A =>
    obtain ⟨v,m⟩:=A;rw [eA] at d;obtain ⟨l,t,m1⟩:=zgO eA
    cases eB : zaB f k b with
    | none =>
      rw [eB] at c;simp -implicitDefEqProofs only [go_sem,zeS] at d c;simp -implicitDefEqProofs only [go_sem,zac,d,c,zlw,zqz]
    | some B =>
      obtain ⟨w,n⟩:=B;rw [eB] at c;obtain ⟨_,n0,s⟩:=zgO eB;obtain ⟨i,u⟩:=hX l v;obtain ⟨g,_⟩:=hX l w;have h:=zmD (X v).1 (X w).1 (by omega);have j : IntKind.u64.wrap m = m:=wrap_u64 (by omega) (by omega);have p : IntKind.u64.wrap n = n:=wrap_u64 (by omega) (by omega);have o:=fun r => zlG (IntKind.u64.wrap ((X w).2 - (X v).2)) m n 0 (.cells 0 3 [zaP f]) r;simp -implicitDefEqProofs only [go_sem,zeS,vFm,fF] at d c i g h o
      by_cases q : (X v).1 = (X w).1
      ·simp -implicitDefEqProofs only [go_sem,zac,d,c,i,g,h,j,p,eq_true q,o,zlw,zqz]
      ·simp -implicitDefEqProofs only [go_sem,zac,d,c,i,g,h,j,p,q,zlw,zqz]
 have e:=hw _ rfl;simp -implicitDefEqProofs only [go_sem] at e;simp -implicitDefEqProofs only [go_sem,zej,e]
end
theorem zl1 {o : POp} {i at' : Int} : ∀ (l : List (Int × Int)) (k j : Nat) (s : Int × Int),l[j]? = some s → (⟨o.args.getD (k + j) 0,s,i,at'⟩ : Use) ∈ zy o i at' k l
 | [],_,_,_,h => by simp at h
 | s :: l,k,0,t,h => by
   simp only [List.getElem?_cons_zero,Option.some.injEq] at h;subst h;rw [zy];exact List.mem_cons_self
 | s :: l,k,j + 1,t,h => by
   rw [zy];refine List.mem_cons_of_mem _ ?_;have:=zl1 (o:=o) (i:=i) (at':=at') l (k + 1) j t (by simpa using h);rw [show k + (j + 1) = k + 1 + j by omega];exact this
theorem RightP.argS {f : PFunc} {level : Int} (h : RightP f level) {k : Nat} {b : PBlock} (g : f.blocks[k]? = some b) {j : Nat} {y : POp} (l : b.ops[j]? = some y) {a : Nat} {s : Int × Int} (n : (zaa y)[a]? = some s) :
  ∃ d ∈ zD f,d.v = y.args.getD a 0 ∧ d.shape = s:=by
 have c:=yi g;have hm:=zl1 (o:=y) (i:=(k : Int)) (at':=(j : Int)) (zaa y) 0 a s n;rw [yw] at hm;have p:=(h.size c).1;have m:=(yb.1 l).1
 have hu : (⟨y.args.getD a 0,s,(k : Int),(j : Int)⟩ : Use) ∈ zec f:=by
  unfold zec zdU;refine List.mem_map.2 ⟨⟨y.args.getD a 0,s,(k : Int),(j : Int)⟩,(ziY _ _ _ 0).2 ⟨k,b,g,?_⟩,?_⟩
  ·rw [yw]
   refine yu.2 (.inr (yu.2 (.inl ((zj6 _ _ _ 0).2 ⟨j,y,l,?_⟩))));rw [yw];exact hm
  ·unfold zad
   simp only;rw [if_neg (by omega)]
 obtain ⟨d,e,e1,e2,_⟩:=h.uses _ hu;exact ⟨d,e,e1,e2⟩
theorem zxA {o : POp} (b : zeO o = true) (a : 0 ≤ zba o.kind) : (zaa o)[(zba o.kind).toNat]? = some (64,1):=by
 unfold zaa;rw [if_pos b];unfold zba at a ⊢
 by_cases c1 : o.kind = 16
 ·simp [zr,arith,asks,c1]
 by_cases c2 : o.kind = 17
 ·simp [zr,arith,asks,c2]
 by_cases c3 : o.kind = 18
 ·simp [zr,arith,asks,c3]
 by_cases c4 : o.kind = 19
 ·simp [zr,arith,asks,c4]
 ·simp [c1,c2,c3,c4] at a
theorem zo8 {f : PFunc} {k a v m : Int} (e : zaB f k a = some (v,m)) : getM v (zer f) = some (64,1) ∧ 0 < v ∧ v < 1024:=by
 unfold zaB at e;split at e
 ·rename_i c
  obtain ⟨n,p,g⟩:=zdl.1 c;rw [yk] at e;obtain ⟨b,h,e⟩:=e;unfold znk at e;split at e
  ·rw [yk] at e
   obtain ⟨o,i,e⟩:=e;unfold zkE at e;split at e
   ·rename_i c3
    injection e with e;injection e with e1 e2;have l:=zeo g.typed (yi h) (yi i);obtain ⟨d,hd,dv,ds⟩:=g.argS h i (zxA l c3);rw [e1] at dv
    have j : lk (zD f) v = some (toP d):=by
     unfold lk;rw [← dv,zih g.once hd];rfl
    refine ⟨?_,zE4 g j⟩;rw [zDb g,j];simp only [Option.map_some,toP,ds]
   ·cases e
  ·cases e
 ·cases e
def CfU (l : List (Int × Int)) : Prop:=∀ v,0 ≤ cf l v ∧ cf l v < 18446744073709551616
theorem zvl (x : Int) : ztp x < 18446744073709551616:=by
 rw [zls];omega
theorem zu8 : CfU []:=fun v => by simp [cf]
theorem zx2 (v : Int) : CfU [(v,1)]:=fun w => by
 simp only [cf];split <;> omega
theorem zrF {op : Int → Int → Int} (e : op 0 0 = 0) (b : ∀ x y,0 ≤ op x y ∧ op x y < 18446744073709551616) {a us : List (Int × Int)} (c : zg 0 a = true) (d : zg 0 us = true) : CfU (zaL op a us):=fun v => by
 rw [zh1 op e v a us 0 c d];exact b _ _
theorem zGC {k : Int} {a b g : zQ} (h : tell k a b = some g) : CfU g.1:=by
 have e : CfU (zlB a b).1:=by
  unfold zlB;split
  ·rename_i c; exact zrF (by decide) (fun x y => ⟨zko _,zvl _⟩) c.1 c.2
  ·exact zu8
 have f : CfU (zil a b).1:=by
  unfold zil;split
  ·rename_i c; exact zrF (by decide) (fun x y => ⟨zko _,zvl _⟩) c.1 c.2
  ·exact zu8
 have d : ∀ (x : zQ) (n : Int),CfU (zfV x n).1:=fun x n => by
  unfold zfV;split
  ·rename_i c; exact zrF (zDZ n) (fun x y => ⟨zko _,zvl _⟩) c rfl
  ·exact zu8
 unfold tell at h;split at h
 ·injection h with h; subst h; exact e
 split at h
 ·injection h with h; subst h; exact f
 split at h
 ·injection h with h; subst h; exact d _ _
 split at h
 ·injection h with h; subst h; exact d _ _
 split at h
 ·injection h with h; subst h; exact d _ _
 ·cases h
theorem zEM {D : ziS} {b : Int → Nat} (h : Ranked D b) (v : Int) : CfU (val D b v).1:=by
 rw [zwm h];unfold zqo
 cases c : getM v D with
 | none => exact zx2 v
 | some o =>
   simp only;unfold zha;split
   ·rename_i x a
    split
    ·exact zx2 v
    ·split at a
     ·cases a
     split at a
     ·injection a with a; subst a; exact zu8
     split at a
     ·cases a
     split at a
     ·exact zGC a
     ·cases a
   ·exact zx2 v
theorem zDp {q p : List (Int × Int)} (c : zg 0 q = true) (mp : zg 0 p = true) (d : CfU q) (up : CfU p) : (zaL mi q p).length = 0 ↔ p = q:=by
 have a : mi 0 0 = 0:=by decide
 constructor
 ·intro h
  have h:=List.eq_nil_of_length_eq_zero h;refine zy5 _ _ mp c fun v => ?_;have e:=zh1 mi a v q p 0 c mp;rw [h] at e;have e : ztp (cf q v - cf p v) = 0:=e.symm;rw [zls] at e;have:=d v;have:=up v;omega
 ·rintro rfl
  have : zaL mi p p = []:=by
   refine zy5 _ _ (zb1 mi p p 0 mp mp) (b:=0) rfl fun v => ?_;rw [zh1 mi a v p p 0 mp mp];unfold mi;rw [Int.sub_self];rfl
  rw [this];rfl
theorem zDQ {d m n : Int} (d0 : 0 ≤ d) (d1 : d < 18446744073709551616) (g : 0 < m) (m1 : m ≤ 1000) (n0 : 0 < n) (a : n ≤ 1000) :
  (decide (m ≤ d) && decide (n ≤ IntKind.u64.wrap (0 - d))) = true ↔ ∀ i k : Nat,(i : Int) < m → (k : Int) < n → ¬ (i : Int) = IntKind.u64.wrap (d + k):=by
 have hw : ∀ z,IntKind.u64.wrap z = z % 18446744073709551616:=zls;rw [hw];simp only [hw];simp only [ye,decide_eq_true_eq];constructor
 ·rintro ⟨l,f⟩ i k b j e
  omega
 ·intro h
  refine ⟨?_,?_⟩
  ·by_cases c : m ≤ d
   ·exact c
   ·exact absurd (by simp only [yh]; omega) (h d.toNat 0 (by omega) (by omega))
  ·by_cases c : m ≤ d
   ·by_cases c2 : n ≤ (0 - d) % 18446744073709551616
    ·exact c2
    ·exact absurd (by omega) (h 0 (18446744073709551616 - d).toNat (by omega) (by omega))
   ·exact absurd (by simp only [yh]; omega) (h d.toNat 0 (by omega) (by omega))
theorem ztU (k : Int) : call T 90 [vI k] [] = some (vI (zba k),[]):=by
 rw [ze (fn:=zau) rfl]
 by_cases c1 : k = 16
 ·simp -implicitDefEqProofs only [go_sem,zau,zba,c1]
 by_cases c2 : k = 17
 ·simp -implicitDefEqProofs only [go_sem,zau,zba,c1,c2]
 by_cases c3 : k = 18
 ·simp -implicitDefEqProofs only [go_sem,zau,zba,c1,c2,c3]
 by_cases c4 : k = 19
 ·simp -implicitDefEqProofs only [go_sem,zau,zba,c1,c2,c3,c4]
 ·simp -implicitDefEqProofs only [go_sem,zau,zba,c1,c2,c3,c4,or_self]
theorem zIA {o : POp} (b : zeO o = true) (c : 0 ≤ zba o.kind) : 8 ≤ o.bits:=by
 unfold zeO at b;simp only [ye,decide_eq_true_eq] at b;obtain ⟨_,a,_⟩:=b;unfold zba at c
 by_cases c1 : o.kind = 16
 ·simp [zr,arith,asks,c1] at a; exact a.2
 by_cases c2 : o.kind = 17
 ·simp [zr,arith,asks,c2] at a; exact a.2
 by_cases c3 : o.kind = 18
 ·simp [zr,arith,asks,c3] at a; exact a.2.2
 by_cases c4 : o.kind = 19
 ·simp [zr,arith,asks,c4] at a; exact a.2.2
 ·simp [c1,c2,c3,c4] at c
theorem zDL {o : POp} (a : zeO o = true) (d : 0 ≤ zba o.kind) : o.lanes * o.bits.tdiv 8 = (o.lanes * o.bits).tdiv 8 ∧ 0 ≤ o.bits.tdiv 8 ∧ o.bits.tdiv 8 ≤ 8:=by
 have h:=zIA a d;unfold zeO at a;simp only [ye,decide_eq_true_eq] at a;obtain ⟨hw,b⟩:=zcI a.1;have c:=zaW hw
 rcases b with e | e | e | e | e <;> rcases c with q | q | q | q | q <;> rw [q] at h <;> rw [e,q] <;> first | decide | omega
theorem zdG (f : PFunc) (z : okF f) (k a : Int) : call T 39 [za9 f,vI k,vI a] [] = some (zeS (zaB f k a),[]):=by
 rw [ze (fn:=zB) rfl];have c:=zvd f z 2;simp -implicitDefEqProofs only [go_sem] at c
 by_cases c1 : zap f 2 = 0
 case neg =>
  have e : zaB f k a = none:=by unfold zaB; rw [if_neg fun h => c1 (zi8.2 (zdl.1 h).2.2)]
  rw [e];simp -implicitDefEqProofs only [go_sem,zB,c,c1,zeS]
 have u:=zi8.1 c1;rw [c1] at c
 by_cases c2 : k < 0
 ·have e : zaB f k a = none:=by unfold zaB; rw [if_neg fun h => by have:=(zdl.1 h).1; omega]
  rw [e];simp -implicitDefEqProofs only [go_sem,zB,c,c2,zeS]
 obtain ⟨n,rfl⟩:=yc (show 0 ≤ k by omega)
 by_cases m : n < f.blocks.length
 case neg =>
  have e : zaB f n a = none:=by unfold zaB; rw [if_neg fun h => by have:=(zdl.1 h).2.1; omega]
  have c3 : (n : Int) ≥ (f.blocks.length : Int):=by omega
  rw [e];simp -implicitDefEqProofs only [go_sem,zB,c,c2,ya,eq_true c3,zeS]
 have c3 : ¬ (n : Int) ≥ (f.blocks.length : Int):=by omega
 have e : zaB f n a = znk f.blocks[n] a:=by
  unfold zaB;rw [if_pos (zdl.2 ⟨by omega,by omega,u⟩),yf,yd m,yj]
 have d : ((n : Int) < (f.blocks.length : Int)) = True:=by simp; omega
 rw [e]
 by_cases c4 : a < 0
 ·have e : znk f.blocks[n] a = none:=by unfold znk; rw [if_neg (by omega)]
  rw [e];simp -implicitDefEqProofs only [go_sem,zB,c,c2,ya,c3,c4,zeS]
 obtain ⟨j,rfl⟩:=yc (show 0 ≤ a by omega);have l:=zt (r:=rb) m;have hm : ∀ o ∈ f.blocks[n].ops,zeO o = true:=fun o x => zeo u.typed (yg m) x;have n0 : (0 ≤ (n : Int)) = True:=by simp
 have t : (0 ≤ (j : Int)) = True:=by simp
 generalize f.blocks[n] = b at *;simp -implicitDefEqProofs only [go_sem,rb] at l;have e0 : znk b j = (b.ops[j]?).bind zkE:=by unfold znk; rw [if_pos (by omega),yf]
 rw [e0]
 by_cases q : j < b.ops.length
 case neg =>
  have c5 : (j : Int) ≥ (b.ops.length : Int):=by omega
  rw [yE (by omega)];simp -implicitDefEqProofs only [go_sem,zB,c,c2,ya,c3,c4,n0,d,yf,l,eq_true c5,zeS]
 have c5 : ¬ (j : Int) ≥ (b.ops.length : Int):=by omega
 have i : ((j : Int) < (b.ops.length : Int)) = True:=by simp; omega
 rw [yd q,yj];have s:=hm _ (yg q);have go:=zt (r:=ro) q;have p:=ztU b.ops[j].kind;unfold zkE;generalize b.ops[j] = o at *;simp -implicitDefEqProofs only [go_sem,ro] at p go
 by_cases c6 : 0 ≤ zba o.kind
 case neg =>
  have c7 : zba o.kind < 0:=by omega
  rw [if_neg c6];simp -implicitDefEqProofs only [go_sem,zB,c,c2,ya,c3,c4,n0,t,d,i,yf,l,go,c5,p,c7,zeS]
 have c7 : ¬ zba o.kind < 0:=by omega
 obtain ⟨f1,f2,f3,f4,f5⟩:=znH s c6;obtain ⟨y,B,C⟩:=zDL s c6;rw [if_pos c6];have w : IntKind.i64.wrap (o.bits.tdiv 8) = o.bits.tdiv 8:=wrap_i64 (by omega) (by omega);have A : IntKind.i64.wrap (o.lanes * o.bits.tdiv 8) = (o.lanes * o.bits).tdiv 8:=by rw [y]; exact wrap_i64 (by omega) (by omega)
 have v : (o.args.map ri)[(zba o.kind).toNat]? = some (ri (o.args.getD (zba o.kind).toNat 0)):=by simp [f1]
 have g : (zba o.kind < (o.args.length : Int)) = True:=by simp; omega
 simp -implicitDefEqProofs only [go_sem,ri] at v;simp -implicitDefEqProofs only [go_sem,zB,c,c2,ya,c3,c4,n0,t,d,i,yf,l,go,c5,p,c6,c7,g,v,w,A,zeS]
theorem zy6 {O : List POp} {D : ziS} {b : Int → Nat} (p : Ranked D b) (m : zHu O D) (σ : zd) (x : Nat) (B : List Bool) (M : List zQ) (v : Int) (h : Fnd σ x O B M) (n : zsI (val D b) B M) (v0 : 0 < v) (v1 : v < 1024) :
  ∃ B' M',B'.length = 1024 ∧ M'.length = 1024 ∧ zsI (val D b) B' M' ∧ call T 93 [.one (.ptr x 0 0 0),vI v] σ = some (vFm (val D b v),σ.set x (fob O B' M')):=by
 have r1:=h.app [Ob.cells 0 2 [[.f (.sl []),.f (.lit (.int .u64 0))]]] (by simp -implicitDefEqProofs only [go_sem]);obtain ⟨B',M',j,lm,e,g⟩:=zzx p m (b v + 1) _ x B M v r1 n v0 v1 (by omega);refine ⟨B',M',j,lm,e,?_⟩;rw [ze (fn:=zcw) rfl];rw [zku h.hx] at g;have l:=h.put j lm;have a : (σ.set x (fob O B' M')).length = σ.length:=yH;have ok:=Ok.at l.ok;have c:=fun k => Ok.up l.ok k;rw [a] at ok;simp only [a] at c;generalize σ.set x (fob O B' M') = σ1 at *;have d:=fun (o : Ob) r => zhD a o r;have i:=fun (y o : Ob) r => zlQ a y o r;have q:=fun (r : zd) => zij a r;simp -implicitDefEqProofs only [go_sem,vFm,fF] at g;simp -implicitDefEqProofs only [go_sem,zcw,g,a,d,i,q,ok,c,vFm,fF]
theorem zLS (f : PFunc) {O : List POp} {B : List Bool} {M : List zQ} (lo : O.length = 1024) (a : B.length = 1024) (lm : M.length = 1024) :
  Fnd [.cells 0 3 [zaP f],.cells 0 3 [zaP f],.cells 0 9216 [FC O B M]] 2 O B M:=by
 refine ⟨rfl,?_,lo,a,lm⟩;unfold Ok;simp -implicitDefEqProofs only [go_sem,zlZ]
theorem zLc (f : PFunc) (x : zQ) {O : List POp} {B : List Bool} {M : List zQ} (lo : O.length = 1024) (a : B.length = 1024) (lm : M.length = 1024) :
  Fnd [.cells 0 3 [zaP f],.cells 0 3 [zaP f],.cells 0 9216 [FC O B M],.cells 0 2 [[.f (.sl (rows x.1)),.f (.lit (.int .u64 x.2))]]] 2 O B M:=by
 refine ⟨rfl,?_,lo,a,lm⟩;unfold Ok;simp -implicitDefEqProofs only [go_sem,zlZ]
theorem zkX (f : PFunc) (i : okF f) (k a b : Int) : call T 41 [za9 f,vI k,vI a,vI b] [] =
  some (.tup [zf4 (zqz (zxv f) (zaB f k a) (zaB f k b)),vB (zlw (zxv f) (fun _ _ _ => true) (zaB f k a) (zaB f k b))],[]):=by
 rw [ze (fn:=zan) rfl];have d:=zdG f i k a;have c:=zdG f i k b
 cases eA : zaB f k a with
 | none =>
   rw [eA] at d;cases eB : zaB f k b <;> rw [eB] at c <;> simp -implicitDefEqProofs only [go_sem,zeS] at d c <;> simp -implicitDefEqProofs only [go_sem,zan,d,c,zlw,zqz]
 | some A =>
   obtain ⟨v,m⟩:=A;rw [eA] at d;obtain ⟨y,S,m1⟩:=zgO eA;obtain ⟨_,v0,v1⟩:=zo8 eA
   cases eB : zaB f k b with
   | none =>
     rw [eB] at c;simp -implicitDefEqProofs only [go_sem,zeS] at d c;simp -implicitDefEqProofs only [go_sem,zan,d,c,zlw,zqz]
   | some B =>
     obtain ⟨w,n⟩:=B;rw [eB] at c;obtain ⟨_,n0,P⟩:=zgO eB;obtain ⟨_,w0,x⟩:=zo8 eB;have g:=zk9 i y;have hd:=zDw y;have l:=zF8 f i hd;have G : (yo 1024 false).length = 1024:=yF;have H : (yo 1024 zlL).length = 1024:=yF
     have E : zsI (zxv f) (yo 1024 false) (yo 1024 zlL):=fun k I e => by
      rw [List.getD_eq_getElem?_getD,List.getElem?_replicate,if_pos I] at e;cases e
     generalize yo 1024 false = Bz at *;generalize yo 1024 zlL = Mz at *;obtain ⟨N,O,r,j,t,p⟩:=zy6 g (zCM hd) _ 2 _ _ v (zLS f (zzH f) G H) E v0 v1;obtain ⟨Q,R,J,M,L,o⟩:=zy6 g (zCM hd) _ 2 _ _ w (zLc f (val (zzc f) (rkV f) v) (zzH f) r j) t w0 x;have D:=zp8 g v;have K:=zp8 g w;have u:=zup g v0 v1;have z:=zup g w0 x;have C:=zDp z u (zEM g w) (zEM g v);have s:=zHg (val (zzc f) (rkV f) w).2 (val (zzc f) (rkV f) v).2 z u (by have:=K.1; omega) (by have:=D.1; omega);simp -implicitDefEqProofs only [go_sem,zeS,vFm,fF,mi,ztp] at d c l p o s
     by_cases q : (val (zzc f) (rkV f) v).1 = (val (zzc f) (rkV f) w).1
     ·have h : ((zaL mi (val (zzc f) (rkV f) w).1 (val (zzc f) (rkV f) v).1).length : Int) = 0:=by have:=C.2 q; omega
      simp -implicitDefEqProofs only [go_sem,zan,d,c,l,zww,zlZ,p,o,s,h,zv,zl,zlw,zqz,zxv,eq_true q]
     ·have h : ¬ ((zaL mi (val (zzc f) (rkV f) w).1 (val (zzc f) (rkV f) v).1).length : Int) = 0:=fun e => q (C.1 (by omega))
      simp -implicitDefEqProofs only [go_sem,zan,d,c,l,zww,zlZ,p,o,s,h,zv,zl,zlw,zqz,zxv,q]
def zvf (d i : Int) : Nat → Nat → Bool
 | _,0 => true
 | k,c + 1 => !decide (i = IntKind.u64.wrap (d + (k : Int))) && zvf d i (k + 1) c
def zog (d : Int) (n : Nat) : Nat → Nat → Bool
 | _,0 => true
 | i,c + 1 => zvf d i 0 n && zog d n (i + 1) c
theorem zvy (d i : Int) : ∀ (c k : Nat),zvf d i k c = true ↔ ∀ j : Nat,k ≤ j → j < k + c → ¬ i = IntKind.u64.wrap (d + (j : Int))
 | 0,k => by simp only [zvf,true_iff]; intro j a b; omega
 | c + 1,k => by
   rw [zvf,ye,zvy d i c (k + 1)];simp only [Bool.not_eq_true',decide_eq_false_iff_not];constructor
   ·rintro ⟨a,b⟩ j f g
    by_cases e : j = k
    ·subst e; exact a
    ·exact b j (by omega) (by omega)
   ·intro h
    exact ⟨h k (by omega) (by omega),fun j a b => h j (by omega) (by omega)⟩
theorem zsZ (d : Int) (n : Nat) : ∀ (c i : Nat),zog d n i c = true ↔ ∀ x : Nat,i ≤ x → x < i + c → ∀ j : Nat,j < n → ¬ (x : Int) = IntKind.u64.wrap (d + (j : Int))
 | 0,i => by simp only [zog,true_iff]; intro x a b; omega
 | c + 1,i => by
   rw [zog,ye,zsZ d n c (i + 1),zvy];constructor
   ·rintro ⟨a,b⟩ x g k
    by_cases e : x = i
    ·subst e; exact fun j f => a j (by omega) (by omega)
    ·exact b x (by omega) (by omega)
   ·intro h
    exact ⟨fun j _ f => h i (by omega) (by omega) j (by omega),fun x a b => h x (by omega) (by omega)⟩
section
variable (X : Ob) (hX : X.lt 1 = true) (d : Int) (m n : Nat) (hm : m ≤ 1000) (hn : n ≤ 1000)
include hX hm hn
theorem zGM (i : Nat) (o : i ≤ 1000) : ∀ (c k : Nat) (a0 a1 a2 a3 a4 a5 a7 b a f e : V),k + c = n →
  exec T zch ⟨[a0,a1,a2,a3,a4,a5,zf4 d,a7,vI m,vI n,vI i,vI k,b,a,f,e],[X],0,0⟩ =
   some (if zvf d i k c = true then (.exit 2,⟨[vU,vU,vU,vU,vU,vU,zf4 d,vU,vI m,vI n,vI i,vU,vU,vU,vU,vU],[X],0,0⟩) else (.ret,⟨[vU,vU,vU,vU,vU,vB false,vU,vU,vU,vU,vU,vU,vU,vU,vU,vU],[X],0,0⟩)):=by
 intro c
 induction c with
 | zero =>
   intro k a0 a1 a2 a3 a4 a5 a7 b a f e l;have g : k = n:=(by omega);subst g;rw [xl zch rfl,zeF];simp -implicitDefEqProofs only [go_sem,yr,zvf,hX]
 | succ c ih =>
   intro k a0 a1 a2 a3 a4 a5 a7 b a f e l;have g : k < n:=(by omega);have h : IntKind.u64.wrap (i : Int) = i:=wrap_u64 (by omega) (by omega);have j : IntKind.u64.wrap (k : Int) = k:=wrap_u64 (by omega) (by omega);have:=ih (k + 1) vU vU vU vU vU vU vU vU vU vU vU (by omega);rw [xl zch rfl,zeF,zvf];simp -implicitDefEqProofs only [go_sem] at this
   by_cases q : (i : Int) = IntKind.u64.wrap (d + (k : Int))
   ·simp -implicitDefEqProofs only [go_sem,ilt g,h,j,eq_true q,hX]
   ·simp -implicitDefEqProofs only [go_sem,ilt g,h,j,q,hX,za g (show n ≤ 4294967296 by omega),this]
theorem zGi : ∀ (c i : Nat) (a0 a1 a2 a3 a4 a5 a7 g b a f e : V),i + c = m →
  exec T zck ⟨[a0,a1,a2,a3,a4,a5,zf4 d,a7,vI m,vI n,vI i,g,b,a,f,e],[X],0,0⟩ =
   some (if zog d n i c = true then (.exit 0,⟨[vU,vU,vU,vU,vU,vU,vU,vU,vU,vU,vU,vU,vU,vU,vU,vU],[X],0,0⟩) else (.ret,⟨[vU,vU,vU,vU,vU,vB false,vU,vU,vU,vU,vU,vU,vU,vU,vU,vU],[X],0,0⟩)):=by
 intro c
 induction c with
 | zero =>
   intro i a0 a1 a2 a3 a4 a5 a7 g b a f e k;have j : i = m:=(by omega);subst j;rw [xl zck rfl,zeA];simp -implicitDefEqProofs only [go_sem,yr,zog,hX]
 | succ c ih =>
   intro i a0 a1 a2 a3 a4 a5 a7 g b a f e k;have h : i < m:=(by omega);have q:=fun a0 a1 a2 a3 a4 a5 a7 b a f e => zGM X hX d m n hm hn i (by omega) n 0 a0 a1 a2 a3 a4 a5 a7 b a f e (by omega);have:=ih (i + 1) vU vU vU vU vU vU vU vU vU vU vU vU (by omega);rw [xl zck rfl,zeA,zog];simp only [yh] at q
   cases r : zvf d i 0 n with
   | true =>
     rw [r] at q;simp -implicitDefEqProofs only [go_sem] at this q;simp -implicitDefEqProofs only [go_sem,ilt h,q,hX,za h (show m ≤ 4294967296 by omega),this]
   | false =>
     rw [r] at q;simp -implicitDefEqProofs only [go_sem] at this q;simp -implicitDefEqProofs only [go_sem,ilt h,q,hX]
end
theorem zu5 (f : PFunc) (y : okF f) (k a b : Int) : call T 43 [za9 f,vI k,vI a,vI b] [] =
  some (vB (zlw (zxv f) (fun d m n => decide (m ≤ d) && decide (n ≤ IntKind.u64.wrap (0 - d))) (zaB f k a) (zaB f k b)),[]):=by
 rw [ze (fn:=zax) rfl];have c:=zkX f y k a b;have g:=zdG f y k a;have e:=zdG f y k b
 cases eA : zaB f k a with
 | none =>
   rw [eA] at c;cases eB : zaB f k b <;> rw [eB] at c <;> simp -implicitDefEqProofs only [go_sem,zlw,zqz] at c <;> simp -implicitDefEqProofs only [go_sem,zax,c,zlw]
 | some A =>
   obtain ⟨v,m⟩:=A;rw [eA] at g c;obtain ⟨H,D,m1⟩:=zgO eA
   cases eB : zaB f k b with
   | none =>
     rw [eB] at e c;simp -implicitDefEqProofs only [go_sem,zeS,zlw,zqz] at g e c;simp -implicitDefEqProofs only [go_sem,zax,c,zlw]
   | some B =>
     obtain ⟨w,n⟩:=B;rw [eB] at e c;obtain ⟨_,n0,C⟩:=zgO eB;generalize zxv f = X at *
     by_cases q : (X v).1 = (X w).1
     ·simp only [zlw,zqz] at c ⊢
      obtain ⟨m,rfl⟩:=yc (show 0 ≤ m by omega);obtain ⟨n,rfl⟩:=yc (show 0 ≤ n by omega);have o:=zko ((X w).2 - (X v).2);have l:=zvl ((X w).2 - (X v).2);unfold ztp at o l;generalize IntKind.u64.wrap ((X w).2 - (X v).2) = d at *;have i:=fun a0 a1 a2 a3 a4 a5 a7 p t s z u => zGi (.cells 0 3 [zaP f]) (by simp -implicitDefEqProofs only [go_sem]) d m n (by omega) (by omega) m 0 a0 a1 a2 a3 a4 a5 a7 p t s z u (by omega)
      have key : (decide ((m : Int) ≤ d) && decide ((n : Int) ≤ IntKind.u64.wrap (0 - d))) = zog d n 0 m:=by
       apply Bool.eq_iff_iff.2;rw [zDQ o l D m1 n0 C,zsZ];constructor
       ·intro h x _ G j E
        exact h x j (by omega) (by omega)
       ·intro h x j G E
        exact h x (by omega) (by omega) j (by omega)
      simp only [yh] at i;rw [key]
      cases r : zog d n 0 m with
      | true =>
        rw [r] at i;simp -implicitDefEqProofs only [go_sem,zeS,zlw,zqz,eq_true q] at g e c i;simp -implicitDefEqProofs only [go_sem,zax,g,e,c,i,eq_true q]
      | false =>
        rw [r] at i;simp -implicitDefEqProofs only [go_sem,zeS,zlw,zqz,eq_true q] at g e c i;simp -implicitDefEqProofs only [go_sem,zax,g,e,c,i,eq_true q]
     ·simp -implicitDefEqProofs only [go_sem,zeS,zlw,zqz,q] at g e c
      simp -implicitDefEqProofs only [go_sem,zax,c,zlw,q]
theorem zCe {f : PFunc} (R : RightF f [-1]) {v : Int} (a : getM v (zer f) = some (64,1)) {n : Nat} {r : zQ} (b : ∃ M',zly (opsOf [] f.blocks) n [] v = some (r,M')) :
  call T 33 [za9 f,vI v] [] = some (.tup [vFm r,vI 0],[]):=by
 obtain ⟨M',h⟩:=b;exact zBH f R.ok [-1] R.isT R.look v a n r M' h
def ldO (w d a : Int) : POp:=⟨16,w,1,d,[a],0⟩
theorem zyn {ps : List Int} {ret arg : Int} {ops : List POp} (R : RightF (zjX ps ret ops arg) [-1]) {a b : Nat} {d c : POp} (p : ops[a]? = some d) (o : ops[b]? = some c) (q : d.kind = 16 ∨ d.kind = 17) (k : c.kind = 16 ∨ c.kind = 17) (l : d.lanes = 1) (t : c.lanes = 1)
  {va e : Int} {j tb : List Int} (f : d.args = va :: j) (h : c.args = e :: tb) {m n : Int} (hm : d.bits = 8 * m) (v : c.bits = 8 * n) (g : 0 ≤ m ∧ m ≤ 1000) (n0 : 0 ≤ n ∧ n ≤ 1000)
  {r1 i : zQ} (r : call T 33 [za9 (zjX ps ret ops arg),vI va] [] = some (.tup [vFm r1,vI 0],[])) (u : call T 33 [za9 (zjX ps ret ops arg),vI e] [] = some (.tup [vFm i,vI 0],[])) (s : r1.1.length ≤ 1000) :
  TwoT (zjX ps ret ops arg) 0 a b va e m n r1 i :=
 ⟨zi7 R 0 (by simp [zjX]) a d p q l va j f m hm g.1 g.2,zi7 R 0 (by simp [zjX]) b c o k t e tb h n v n0.1 n0.2,r,u,g,n0,s⟩
theorem zJ2 {op : Int → Int → Int} (b : op 0 0 = 0) (a : op 1 0 = 1) : zaL op [(1,1)] [] = [(1,1)]:=by
 rw [zaL,zaL,a];rfl
def zKk (d n : Int) : POp:=⟨0,64,1,d,[],n⟩
def zKn (k d a b : Int) : POp:=⟨k,64,1,d,[a,b],0⟩
theorem zKQ {n : Int} (a : 0 ≤ n) (b : n < 18446744073709551616) : zzU n 64 = n:=by
 unfold zzU;rw [if_pos (show zhe 64 = true from rfl)];exact yL a b
section
variable (k : Int) (h0 : 0 ≤ k) (h1 : k < 18446744073709551616)
include h0 h1 in
theorem zKT : tell 1 ([(1,1)],0) ([],k) = some ([(1,1)],k):=by
 have a : zg 0 [((1 : Int),(1 : Int))] = true:=by simp [zg]
 have b : zg 0 ([] : List (Int × Int)) = true:=rfl
 have : pl 0 k = k:=by
  rw [pl,zls,Int.zero_add];exact yL h0 h1
 rw [tell,if_pos rfl,zlB,if_pos ⟨a,b⟩,zJ2 rfl rfl,this]
include h0 h1 in
include h0 h1 in
include h0 h1 in
include h0 h1 in
include h0 h1 in
end
theorem zH7 (l : List Int) (c : l.length ≤ 4294967296) : ∀ (d k : Nat) (a2 a4 a5 a6 : V),l.length - k = d → k ≤ l.length →
  exec T zaw ⟨[vIs l,vIs l,a2,vI k,a4,a5,a6],[],0,0⟩ = some (.exit 0,⟨[vU,vU,vU,vU,vU,vU,vU],[],0,0⟩):=by
 intro d
 induction d with
 | zero =>
   intro k a2 a4 a5 a6 b e;have a : k = l.length:=(by omega);subst a;rw [xl zaw rfl,zbk];simp -implicitDefEqProofs only [go_sem,yr,ya]
 | succ d ih =>
   intro k a2 a4 a5 a6 b e;have a : k < l.length:=(by omega);have:=ih (k + 1) vU vU vU vU (by omega) (by omega);rw [xl zaw rfl,zbk];simp -implicitDefEqProofs only [go_sem] at this;simp -implicitDefEqProofs only [go_sem,ilt a,zt a,ri,ya,za a c,this]
theorem zDc (l : List Int) (a : l.length ≤ 4294967296) : call T 22 [vIs l,vIs l] [] = some (vB true,[]):=by
 rw [ze (fn:=zaE) rfl];have h:=fun a2 a4 a5 a6 => zH7 l a l.length 0 a2 a4 a5 a6 (by omega) (by omega);simp only [yh] at h;simp -implicitDefEqProofs only [go_sem] at h;simp -implicitDefEqProofs only [go_sem,zaE,h]
def zI1 (v : Int) : Int × Int:=if v ≤ 3 then (64,1) else (32,1)
def zAY : List POp:=[zKk 2 4,zKn 1 3 1 2,ldO 32 4 1,ldO 32 5 3]
theorem zIR : MTo zI1 2 zAY 6 :=
 .val (zHH zI1 64 2 4 rfl (by omega) (by omega) (by omega) (by omega) (zKQ (by omega) (by omega)) rfl) rfl (by omega) rfl <|
 .val (zIa zI1 1 64 3 1 2 rfl rfl (by omega) (by omega) (by omega) (by omega) (by omega) (by omega) rfl rfl rfl) rfl (by omega) rfl <|
 .val (zzh zI1 32 4 1 rfl (by omega) (by omega) (by omega) (by omega) (by omega) rfl rfl) rfl (by omega) rfl <|
 .val (zzh zI1 32 5 3 rfl (by omega) (by omega) (by omega) (by omega) (by omega) rfl rfl) rfl (by omega) rfl <|
 .nil _ _
abbrev awF : PFunc:=zjX [64] 32 zAY 5
def awM : ziS:=opsOf [] awF.blocks
theorem am1 : getM 1 awM = none:=rfl
theorem am2 : getM 2 awM = some (zKk 2 4):=rfl
theorem am3 : getM 3 awM = some (zKn 1 3 1 2):=rfl
theorem ao1 (n : Nat) (M : zuD) (h : getM 1 M = none) : zly awM (n + 1) M 1 = some (([(1,1)],0),zjb 1 ([(1,1)],0) M):=by
 simp [zly,zvq,h,am1,zha]
theorem ao2 (n : Nat) (M : zuD) (h : getM 2 M = none) : zly awM (n + 1) M 2 = some (([],4),zjb 2 ([],4) M):=by
 simp [zly,zvq,h,am2,zha,zKk]
theorem ao3 (n : Nat) : ∃ M',zly awM (n + 2) [] 3 = some (([(1,1)],4),M'):=by
 have e2 : getM 2 (zjb 1 (([(1,1)],0) : zQ) []) = none:=rfl;refine ⟨zjb 3 ([(1,1)],4) (zjb 2 ([],4) (zjb 1 ([(1,1)],0) [])),?_⟩;rw [zly];simp only [getM,zvq,am3,zKn,ao1 n [] rfl,yj,ao2 n _ e2];simp [zKT 4 (by omega) (by omega),zha]
set_option maxRecDepth 10000 in
theorem zxb : call T 37 [] [] = some (vB true,[]):=by
 rw [ze (fn:=zfc) rfl]
 obtain ⟨R,i⟩:=zG5 (sh:=zI1) (ps:=[64]) (ret:=32) (ops:=zAY) (arg:=5) (d:=2) (e:=6) rfl rfl (by simp) rfl (fun q l => by
  have : q = 0:=by simp at l; omega
  subst this
  rfl) zIR (by simp [zAY]) (by omega) (by omega) (by omega) rfl
 have c:=zCe R (i 1 (by omega) (by omega)) ⟨_,ao1 0 [] rfl⟩;have g:=zCe R (i 3 (by omega) (by omega)) (ao3 0);have t32:=zyn R (a:=3) (b:=2) (m:=4) (n:=4) rfl rfl (.inl rfl) (.inl rfl) rfl rfl rfl rfl rfl rfl (by omega) (by omega) g c (by simp);have t23:=zyn R (a:=2) (b:=3) (m:=4) (n:=4) rfl rfl (.inl rfl) (.inl rfl) rfl rfl rfl rfl rfl rfl (by omega) (by omega) c g (by simp);have t22:=zyn R (a:=2) (b:=2) (m:=4) (n:=4) rfl rfl (.inl rfl) (.inl rfl) rfl rfl rfl rfl rfl rfl (by omega) (by omega) c c (by simp);have hA:=t32.hA;have d32:=zuK t32;have f32:=zqb t32;have a32:=zsO t32;have f23:=zqb t23;have a22:=zsO t22;have f:=zvR R 0 (by simp [zjX]);have eT : zaN 0 (zjX [64] 32 zAY 5).blocks[0].ops = [2,3]:=rfl;rw [eT] at f;have h:=zDc [2,3] (by simp);have j : IntKind.u64.wrap (0 - 4) = 18446744073709551612:=by decide
 have o : IntKind.u64.wrap (0 - 18446744073709551612) = 4:=by decide
 have k : IntKind.u64.wrap (4 - 0) = 4:=by decide
 have p : IntKind.u64.wrap (0 - 0) = 0:=by decide
 simp only [j,o,k,p,if_true,decide_true,Bool.true_and,Int.reduceEq,Int.reduceLE,decide_false,Bool.and_self,Bool.and_true,Bool.and_false] at d32 f32 a32 f23 a22;simp -implicitDefEqProofs only [go_sem,zjX,zAY,zKk,zKn,ldO,yC,yA,rb,ro,ri,ei,eu,eI,Int.cast_ofNat_Int] at hA d32 f32 a32 f23 a22 f h;simp -implicitDefEqProofs only [go_sem,zfc,hA,d32,f32,a32,f23,a22,f,h,beq_self_eq_true]
def zf6 (f : PFunc) (k : Int) : List Int:=if zin f k = true then zaN 0 (f.blocks.getD k.toNat ⟨[],[],0,0,[]⟩).ops else []
theorem zle : ∀ (l : List POp) (k : Nat),(zaN k l).length ≤ l.length
 | [],_ => by simp [zaN]
 | o :: l,k => by
   rw [zaN];have:=zle l (k + 1);split <;> simp <;> omega
theorem zuG (f : PFunc) (hf : okF f) (k : Int) : call T 45 [za9 f,vI k] [] = some (vIs (zf6 f k),[]):=by
 rw [ze (fn:=zdM) rfl];have a:=zj0 f hf k;unfold zf6
 cases c : zin f k with
 | false =>
   rw [c] at a;simp -implicitDefEqProofs only [go_sem] at a;simp -implicitDefEqProofs only [go_sem,zdM,a,yA]
 | true =>
   rw [c] at a;obtain ⟨i,j,l⟩:=zdl.1 c;obtain ⟨n,rfl⟩:=yc i;have h : n < f.blocks.length:=(by omega);have g : ((n : Int) < (f.blocks.length : Int)) = True:=(by simp; omega);have e : f.blocks.getD n ⟨[],[],0,0,[]⟩ = f.blocks[n]:=(by simp [h]);have q:=fun a0 a1 a2 a3 a5 a6 a7 b d => zsJ f f.blocks[n] (hf.block _ (yg h)) f.blocks[n].ops.length 0 [] a0 a1 a2 a3 a5 a6 a7 b d (by omega) (by omega) (by simp);simp only [yz,yh,yA,yG,yv] at q;rw [yf,e];simp -implicitDefEqProofs only [go_sem] at a q;simp -implicitDefEqProofs only [go_sem,zdM,a,g,zt h,rb,q,ya]
def zf2 (f : PFunc) (k : Int) : Nat → Nat → List Int
 | _,0 => []
 | j,c + 1 => if (zaB f k j).isSome = true then (j : Int) :: zf2 f k (j + 1) c else zf2 f k (j + 1) c
theorem zza {f : PFunc} {k : Int} (h : zin f k = false) : ∀ c j : Nat,zf2 f k j c = []
 | 0,_ => rfl
 | c + 1,j => by
   have e : zaB f k j = none:=(by unfold zaB; rw [h]; rfl);rw [zf2,e,zza h c];rfl
theorem ztN {f : PFunc} {n : Nat} (b : n < f.blocks.length) (h : zin f n = true) : ∀ c j : Nat,j + c = f.blocks[n].ops.length → zf2 f n j c = zaN j (f.blocks[n].ops.drop j)
 | 0,j,e => by rw [zf2,yB (by omega),zaN]
 | c + 1,j,e => by
   have a : j < f.blocks[n].ops.length:=by omega
   have ea : zaB f n j = zkE f.blocks[n].ops[j]:=by
    unfold zaB znk;rw [if_pos h,yf,yd b,yj,if_pos (by omega),yf,yd a,yj]
   rw [zf2,ea,ztN b h c (j + 1) (by omega),yl a,zaN];unfold zkE
   by_cases q : 0 ≤ zba f.blocks[n].ops[j].kind
   ·rw [if_pos q,if_pos q]
    rfl
   ·rw [if_neg q,if_neg q]
    rfl
section
variable (f : PFunc) (hf : okF f) (a b : Int)
include hf
theorem zFZ (n : Nat) (o : n < f.blocks.length) : ∀ (c j : Nat) (acc : List Int) (a0 a1 a4 a5 a6 a7 a8 a9 m d h g r l i q a20 k a22 : V),j + c = f.blocks[n].ops.length → acc.length ≤ j →
  exec T zF ⟨[a0,a1,.one (.ptr 0 0 0 0),.one (.ptr 1 0 0 0),a4,a5,a6,a7,a8,a9,m,d,h,g,r,.one (.ap 2 0 (acc.map ri)),vI j,l,i,q,a20,k,a22],[.cells 0 3 [zaP f],.cells 0 3 [[.f (ei n),.f (ei a),.f (ei b)]],.tok 1 [acc.length]],0,0⟩ =
   some (.exit 0,⟨[vU,vU,.one (.ptr 0 0 0 0),.one (.ptr 1 0 0 0),vU,vU,vU,vU,vU,vU,vU,vU,vU,vU,vU,.one (.ap 2 0 ((acc ++ zf2 f n j c).map ri)),vU,vU,vU,vU,vU,vU,vU],[.cells 0 3 [zaP f],.cells 0 3 [[.f (ei n),.f (ei a),.f (ei b)]],.tok 1 [(acc ++ zf2 f n j c).length]],0,0⟩):=by
 have n0 : (n : Int) ≥ 0:=by omega
 intro c
 induction c with
 | zero =>
   intro j acc a0 a1 a4 a5 a6 a7 a8 a9 m d h g r l i q a20 k a22 x w;have t : j = f.blocks[n].ops.length:=(by omega);rw [xl zF rfl,zaq,t,zf2,yP];simp -implicitDefEqProofs only [go_sem,eq_true n0,ilt o,zt o,rb,ya,yr]
 | succ c ih =>
   intro j acc a0 a1 a4 a5 a6 a7 a8 a9 m d h g r l i q a20 k a22 x w;have t : j < f.blocks[n].ops.length:=(by omega);have s:=zdG f hf n j;have v:=(hf.block _ (yg o)).ops;have u : acc.length + 1 ≤ LIM:=(by unfold LIM; omega);rw [xl zF rfl,zaq,zf2]
   cases e : zaB f n j with
   | none =>
     have:=ih (j + 1) acc vU vU vU vU vU vU vU vU vU vU vU vU vU vU vU vU vU vU vU (by omega) (by omega);rw [e] at s;simp -implicitDefEqProofs only [go_sem,zeS] at this s;simp -implicitDefEqProofs only [go_sem,eq_true n0,ilt o,zt o,rb,ya,ilt t,s,za t v,this]
   | some p =>
     have:=ih (j + 1) (acc ++ [(j : Int)]) vU vU vU vU vU vU vU vU vU vU vU vU vU vU vU vU vU vU vU (by omega) (by simp; omega);rw [yN,yD,← zG8] at this;rw [e] at s;simp -implicitDefEqProofs only [go_sem,zeS] at this s;simp -implicitDefEqProofs only [go_sem,eq_true n0,ilt o,zt o,rb,ya,ilt t,s,u,za t v,this]
theorem zAP (k : Int) (a0 a1 a4 a5 a6 a7 a8 a9 o d i g q m j p a20 l a22 : V) :
  exec T zF ⟨[a0,a1,.one (.ptr 0 0 0 0),.one (.ptr 1 0 0 0),a4,a5,a6,a7,a8,a9,o,d,i,g,q,.one (.ap 2 0 []),vI 0,m,j,p,a20,l,a22],[.cells 0 3 [zaP f],.cells 0 3 [[.f (ei k),.f (ei a),.f (ei b)]],.tok 1 [0]],0,0⟩ =
   some (.exit 0,⟨[vU,vU,.one (.ptr 0 0 0 0),.one (.ptr 1 0 0 0),vU,vU,vU,vU,vU,vU,vU,vU,vU,vU,vU,.one (.ap 2 0 ((zf6 f k).map ri)),vU,vU,vU,vU,vU,vU,vU],[.cells 0 3 [zaP f],.cells 0 3 [[.f (ei k),.f (ei a),.f (ei b)]],.tok 1 [(zf6 f k).length]],0,0⟩):=by
 have bad : (¬ k ≥ 0 ∨ ¬ k < (f.blocks.length : Int)) → zf6 f k = []:=fun h => by
  unfold zf6;rw [if_neg fun c => by obtain ⟨u,t,_⟩:=zdl.1 c; omega]
 by_cases c1 : k ≥ 0
 ·obtain ⟨n,rfl⟩:=yc c1
  by_cases s : n < f.blocks.length
  ·have:=zFZ f hf a b n s f.blocks[n].ops.length 0 [] a0 a1 a4 a5 a6 a7 a8 a9 o d i g q m j p a20 l a22 (by omega) (by simp)
   have e : zf6 f n = zf2 f n 0 f.blocks[n].ops.length:=by
    unfold zf6
    cases r : zin f n with
    | false => rw [zza r]; rfl
    | true =>
      rw [ztN s r _ 0 (by omega),yz,if_pos rfl,yf];simp [s]
   rw [e];simp only [yh,yA,yG,yv] at this;exact this
  ·have c2 : ¬ (n : Int) < (f.blocks.length : Int):=by omega
   rw [bad (.inr c2),xl zF rfl,zaq];simp -implicitDefEqProofs only [go_sem,eq_true c1,ya,c2]
 ·rw [bad (.inl c1),xl zF rfl,zaq]
  simp -implicitDefEqProofs only [go_sem,c1,ya]
end
theorem zIL (f : PFunc) (hf : okF f) : ∃ (X : Int → zQ) (c : Int → Int),(RightP f 2 → ∀ v,call T 33 [za9 f,vI v] [] = some (.tup [vFm (X v),vI (c v)],[]) ∧ (X v).1.length ≤ 1000) ∧ ∀ k a v m,zaB f k a = some (v,m) → X v = zxv f v:=by
 refine ⟨fun v => if getM v (zer f) = some (64,1) then zxv f v else zlL,fun v => if getM v (zer f) = some (64,1) then 0 else 10,fun d v => ?_,fun k a v m e => if_pos (zo8 e).1⟩
 have g : ziQ f 2 (zG6 f) = 0:=by
  have:=zvw hf 2;rw [zi8.2 d] at this;unfold zna at this;rw [if_neg (by omega)] at this;exact this
 by_cases b : getM v (zer f) = some (64,1)
 ·obtain ⟨n,h,e⟩:=zDa hf d v
  simp only [if_pos b];have ok : zJk (zxv f v):=zp8 (zk9 hf d) v;exact ⟨zBH f hf _ (zyB hf) g v b n _ h e,by have:=ok.1; omega⟩
 ·simp only [if_neg b]
  exact ⟨zyu f hf _ (zyB hf) g v b,by simp⟩
theorem zt2 {f : PFunc} {X : Int → zQ} {k : Int} (h : ∀ k a v m,zaB f k a = some (v,m) → X v = zxv f v) (a b : Int) (p : Int → Int → Int → Bool) : zlw X p (zaB f k a) (zaB f k b) = zlw (zxv f) p (zaB f k a) (zaB f k b) ∧ zqz X (zaB f k a) (zaB f k b) = zqz (zxv f) (zaB f k a) (zaB f k b):=by
 cases eA : zaB f k a with
 | none => exact ⟨rfl,rfl⟩
 | some A =>
   obtain ⟨v,m⟩:=A
   cases eB : zaB f k b with
   | none => exact ⟨rfl,rfl⟩
   | some B =>
     obtain ⟨w,n⟩:=B;simp only [zlw,zqz,h k a v m eA,h k b w n eB,and_self]
theorem zsz (f : PFunc) (hf : anyF f) (k a b : Int) : call T 8 [za9 f,.agg [.f (ei k),.f (ei a),.f (ei b)]] [] = some (vB true,[]):=by
 rw [ze (fn:=zM) rfl];have i:=zxb;obtain ⟨M,j,G⟩:=zuX f hf;simp -implicitDefEqProofs only [go_sem] at i j
 cases M with
 | false => simp -implicitDefEqProofs only [go_sem,zM,i,j]
 | true =>
   have d:=zGh hf (G rfl);obtain ⟨X,c,I,o⟩:=zIL f d;have d1:=zsH f d X c I k a b;have p1:=zxZ f d X c I k a b;have g:=zug f d X c I k a b;rw [(zt2 o a b _).1] at p1 g;rw [(zt2 o a b _).1,(zt2 o a b fun _ _ _ => true).2] at d1;have d2:=zkX f d k a b;have p2:=zu5 f d k a b;have l:=zb2 f d k a;have e:=zdG f d k a;have s:=zuG f d k;have t:=fun a0 a1 a4 a5 a6 a7 a8 a9 E u y x J D z H a20 C a22 => zAP f d a b k a0 a1 a4 a5 a6 a7 a8 a9 E u y x J D z H a20 C a22
   have p:=zjk (zf6 f k) (zf6 f k) (by
    unfold zf6;split
    ·rename_i r
     obtain ⟨N,O,_⟩:=zdl.1 r;have h:=zle (f.blocks.getD k.toNat ⟨[],[],0,0,[]⟩).ops 0;rw [show f.blocks.getD k.toNat ⟨[],[],0,0,[]⟩ = f.blocks[k.toNat]'(by omega) by simp [show k.toNat < f.blocks.length by omega]] at h ⊢;have:=(d.block _ (yg (show k.toNat < f.blocks.length by omega))).ops;omega
    ·simp)
   simp only [decide_true] at p;generalize zf6 f k = L at *;generalize zxv f = Y at *;simp -implicitDefEqProofs only [go_sem] at s p t
   cases eA : zaB f k a with
   | none =>
     rw [eA] at d1 d2 p1 p2 g l e;cases eB : zaB f k b <;> rw [eB] at d1 d2 p1 p2 g <;> simp -implicitDefEqProofs only [go_sem,zeS,zlw,zqz] at d1 d2 p1 p2 g l e <;> simp -implicitDefEqProofs only [go_sem,zM,beq_self_eq_true,i,j,d1,d2,p1,p2,g,l,e,s,t,p]
   | some A =>
     obtain ⟨v,m⟩:=A;obtain ⟨P,Q,m1⟩:=zgO eA;rw [eA] at d1 d2 p1 p2 g l e;have K : IntKind.u64.wrap m = m:=wrap_u64 (by omega) (by omega)
     cases eB : zaB f k b with
     | none =>
       rw [eB] at d1 d2 p1 p2 g;simp -implicitDefEqProofs only [go_sem,zeS,zlw,zqz] at d1 d2 p1 p2 g l e;simp -implicitDefEqProofs only [go_sem,zM,beq_self_eq_true,i,j,d1,d2,p1,p2,g,l,e,s,t,p]
     | some B =>
       obtain ⟨w,n⟩:=B;rw [eB] at d1 d2 p1 p2 g
       by_cases q : (Y v).1 = (Y w).1
       ·simp -implicitDefEqProofs only [go_sem,zeS,zlw,zqz,eq_true q] at d1 d2 p1 p2 g l e
        simp -implicitDefEqProofs only [go_sem,zM,beq_self_eq_true,i,j,d1,d2,p1,p2,g,l,e,s,t,p,K]
       ·simp -implicitDefEqProofs only [go_sem,zeS,zlw,zqz,q] at d1 d2 p1 p2 g l e
        simp -implicitDefEqProofs only [go_sem,zM,beq_self_eq_true,i,j,d1,d2,p1,p2,g,l,e,s,t,p,K]
end AC
namespace Go.A
open Go.Sort
theorem zGc {c : C} {v : Value} (h : zAj c = some (.lit v)) : c = .f (.lit v):=by
 cases c <;> simp only [zAj] at h <;> first | (injection h with h; injection h) | (injection h with h; rw [h]) | cases h
theorem zwl : ∀ {es : List (List C)} {l : List Int},(zbo es).bind zio = some l → es = l.map zL
 | [],l,h => by simp [zbo,zio] at h; subst h; rfl
 | e :: es,l,h => by
   simp only [zbo] at h;unfold zhN at h;split at h
   ·rename_i x xs a g
    simp only [yj,zio] at h;unfold zhN at h;split at h
    ·rename_i y ys b i
     injection h with h;subst h;have j:=zwl (es:=es) (l:=ys) (by rw [g]; exact i);subst j
     have : e = zL y:=by
      unfold zze at b;split at b
      ·rename_i z
       injection b with b;subst b
       cases e with
       | nil => simp [zgp] at a
       | cons c cs =>
         simp only [zgp] at a;unfold zhN at a;split at a
         ·rename_i a0 bs f d
          injection a with a;injection a with h3 h4;subst h3 h4
          cases cs with
          | nil => rw [zGc f]; rfl
          | cons c2 cs =>
            simp only [zgp] at d;unfold zhN at d;split at d
            ·cases d
            ·cases d
         ·cases a
      ·cases b
     rw [this];rfl
    ·cases h
   ·simp at h
theorem zvz {a n : Nat} {o : Ob} {l : List Int} (h : zpk a n o = some l) : o = .cells a 1 (l.map zL) ∧ l.length = n ∧ n ≤ LIM:=by
 cases o with
 | tok _ _ => simp [zpk] at h
 | mp _ => simp [zpk] at h
 | cells ver' sz es =>
   simp only [zpk] at h;split at h
   ·rename_i d
    obtain ⟨rfl,rfl,b,c⟩:=d;have:=zwl h;subst this;exact ⟨rfl,by simpa using b,c⟩
   ·cases h
section
variable {g : G} {w : World} {σ : zd}
theorem zF6 (R : Rel g w σ) {id b : Nat} {l : List Int} (d : σ[id]? = some (.cells b 1 (l.map zL))) (k : l ≠ []) {u : Value} (s : zh g w σ (.one (.own id b 0 l.length)) u) :
  ∃ c arr t,u = .slice (some ⟨g.ρ id,0,none⟩) l.length c ∧ l.length ≤ c ∧ w.heap[g.ρ id]? = some (.cells arr t (0,0)) ∧ l.length ≤ arr.size ∧ (∀ (j : Nat) x,l[j]? = some x → arr[j]? = some (.int .i64 x)) ∧ g.ow (g.ρ id) = .ob id ∧ ∀ o,¬ g.N (g.ρ id) o:=by
 obtain ⟨a,c,e1,e2,e3,e4⟩:=zh4 s d;have e : l.map zL ≠ []:=by simpa using k
 obtain ⟨n,B,arr,t,m,z,y⟩:=R.ob id _ d e;have i : 0 < l.length:=List.length_pos_iff.2 k;obtain ⟨_,f2,_⟩:=e4 (by simp; omega);have p:=f2 (by omega);refine ⟨c,arr,t,(by rw [e1,p]; try simp),e2,m,by simpa using z,fun j x A => ?_,n,B⟩;obtain ⟨_,q⟩:=y j (zL x) (by simp [A]);obtain ⟨v,r,h,_⟩:=q 0 (.f (.lit (.int .i64 x))) (by simp [zL]);simp only [zK,rep] at h;rw [← h.1];simpa using r
theorem zC6 (R : Rel g w σ) {l : List Int} {b : Nat} {arr : Array Value} {t : TypeId} (h : w.heap[b]? = some (.cells arr t (0,0))) (d : ∀ (j : Nat) x,l[j]? = some x → arr[j]? = some (.int .i64 x)) : Holds (Value.int .i64) w b 0 l.toArray:=fun j c => by
 have a : j < l.length:=by simpa using c
 refine ⟨?_,by simp [World.frozen?,h]⟩;rw [zju h,yw,d j l[j] (by simp [a])];simp [a]
theorem zF0 {q : Nat} {b : Nat} {d : Array Int} {os : Array Obj} {arr : Array Value} {t : TypeId} (h : w.heap[b]? = some (.cells arr t (0,0))) :
  (grow (putRow (Value.int .i64) (Sort.ahead w q) b 0 d) os).heap[b]? = some (.cells (putCells (Value.int .i64) 0 d arr) t (0,0)):=by
 have a : b < w.heap.size:=(yx.1 h).1;simp only [grow,putRow,mapBlock,Sort.ahead];rw [yy (by simpa using a),yI,if_pos rfl,h];rfl
theorem zAN {q : Nat} {b j : Nat} {d : Array Int} {os : Array Obj} (c : j < w.heap.size) (a : j ≠ b) :
  (grow (putRow (Value.int .i64) (Sort.ahead w q) b 0 d) os).heap[j]? = w.heap[j]?:=by
 simp only [grow,putRow,mapBlock,Sort.ahead];rw [yy (by simpa using c),yI,if_neg (Ne.symm a)]
theorem zuV (d : Array Int) (arr : Array Value) : (putCells (Value.int .i64) 0 d arr).size = arr.size:=by simp [putCells]
theorem zwQ {d : Array Int} {arr : Array Value} {j : Nat} (b : j < d.size) (hd : d.size ≤ arr.size) : (putCells (Value.int .i64) 0 d arr)[j]? = some (.int .i64 d[j]):=by
 have a : j < arr.size:=by omega
 have c : j < (putCells (Value.int .i64) 0 d arr).size:=by rw [zuV]; exact a
 rw [Array.getElem?_eq_getElem c];simp [putCells,b]
theorem zFp (R : Rel g w σ) {id a : Nat} {l : List Int} (c : σ[id]? = some (.cells a 1 (l.map zL))) {d : Array Int} {arr : Array Value} {t : TypeId}
  (y : w.heap[g.ρ id]? = some (.cells arr t (0,0))) (m : g.ow (g.ρ id) = .ob id) (u : ∀ o,¬ g.N (g.ρ id) o) (q : Nat) (os : Array Obj) :
  Ext g w σ (g.give (g.ρ id)) (grow (putRow (Value.int .i64) (Sort.ahead w q) (g.ρ id) 0 d) os) (σ.set id (.cells (a + 1) 1 [])) ∧
  Rel (g.give (g.ρ id)) (grow (putRow (Value.int .i64) (Sort.ahead w q) (g.ρ id) 0 d) os) (σ.set id (.cells (a + 1) 1 [])):=by
 have i : g.ρ id < w.heap.size:=(yx.1 y).1
 refine replace (g':=g.give (g.ρ id)) R c (fun b => b = g.ρ id) rfl rfl rfl (by simp [grow,Sort.ahead]) (fun b i s => ⟨zAN i s,rfl,fun o h => h.elim (fun x => x) (fun e => absurd e s)⟩)
  (fun b i => ⟨.inl (by rw [i]; exact m),rfl,fun o h => absurd (by rw [i] at h; exact h) (u o)⟩) (fun _ _ _ h => .inl h) (fun _ _ => rfl) (fun _ _ _ => rfl)
  (fun b o h => by
   simp only [grow,Array.size_append,size_putRow,Sort.ahead];rcases h with h | h
   ·have:=R.nb b o h; omega
   ·omega) ?_ ?_ ?_ (fun _ _ h => by cases h) ?_
 ·intro p v r j
  rw [zG c] at j;injection j with j;injection j with h1 h2;injection h2 with h2 h3;subst h1 h2;exact .inr ⟨a + 1,0,by rw [zG (zI c)]; rfl,by omega⟩
 ·intro es' h; cases h
 ·intro k n h; simp [zpd,c,Ob.fr] at h
 ·intro H f
  exact absurd rfl f
end
end Go.A
namespace Go.A
open Go.Lib
def zh6 : Option Int → List Int → List Int
 | _,[] => []
 | p,x :: r => if p = some x then zh6 p r else x :: zh6 (some x) r
theorem zoZ : ∀ (r : List Int) (x : Int),x :: zh6 (some x) r = zam (x :: r)
 | [],x => rfl
 | y :: r,x => by
   simp only [zam,zh6]
   by_cases h : x = y
   ·subst h
    rw [if_pos rfl,if_pos rfl];exact zoZ r x
   ·rw [if_neg (by simpa using h),if_neg h,zoZ r y]
theorem zuE (l : List Int) : zh6 none l = zam l:=by
 cases l with
 | nil => rfl
 | cons x r => simp [zh6,zoZ]
theorem zvC (l : List Int) : ∀ (n k : Nat),k + n = l.length → (((List.range' k n).filter (keeps l.toArray)).map (l.toArray[·]!)) = zh6 (if k = 0 then none else l[k - 1]?) (l.drop k)
 | 0,k,h => by
   rw [yB (by omega)];simp [zh6]
 | n + 1,k,h => by
   have f : k < l.length:=(by omega);have d:=zvC l n (k + 1) (by omega);rw [yl f];simp only [List.range'_succ,zh6,List.filter_cons];simp only [Nat.add_one_ne_zero,if_false,Nat.add_sub_cancel,yd f] at d;have e : l.toArray[k]! = l[k]:=by simp [f]
   by_cases c : k = 0
   ·subst c
    have a : keeps l.toArray 0 = true:=(by simp [keeps]);rw [a,if_pos rfl,if_pos rfl,if_neg (by simp),yC,d,e]
   ·have b : k - 1 < l.length:=by omega
    have e1 : l.toArray[k - 1]! = l[k - 1]:=(by simp [b]);rw [if_neg c,yd b]
    by_cases hd : l[k - 1] = l[k]
    ·have a : keeps l.toArray k = false:=by
      have : ¬ l.toArray[k]! ≠ l.toArray[k - 1]!:=(by rw [e,e1,hd]; simp);simp only [keeps,c,false_or,decide_eq_false_iff_not];exact this
     simp only [a,yK,if_false];rw [if_pos (by rw [hd]),d,hd]
    ·have a : keeps l.toArray k = true:=by
      have : l.toArray[k]! ≠ l.toArray[k - 1]!:=by rw [e,e1]; exact fun h => hd h.symm
      simp only [keeps,c,false_or,decide_eq_true_eq];exact this
     simp only [a,if_true,yC];rw [if_neg (by simpa using hd),d,e]
theorem zAz (l : List Int) : Lib.compact l = zam l:=by
 have:=zvC l l.length 0 (by simp);simp only [if_true,yz] at this;rw [← zuE,← this,Lib.compact,compactUpTo,List.range_eq_range']
theorem zrH : ∀ l : List Int,(zam l).length ≤ l.length
 | [] => by simp [zam]
 | [x] => by simp [zam]
 | x :: y :: r => by
   have:=zrH (y :: r);simp only [zam];split
   ·simp only [ym] at this ⊢; omega
   ·simp only [ym] at this ⊢; omega
end Go.A

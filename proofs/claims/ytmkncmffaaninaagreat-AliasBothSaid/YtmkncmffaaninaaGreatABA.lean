/- A part of the proof of AliasBoth. Conditions: none. -/
import Derived.Test.YtmkncmffaaninaaGreatAAZ
import Derived.Test.YtmkncmffaaninaaGreatAAV
import Derived.Test.YtmkncmffaaninaaGreatAAQ
set_option linter.all false
open Int renaming natCast_nonneg → ya,toNat_natCast → yb,natCast_zero → yi,reduceAdd → yo,lt_irrefl → yv
open List renaming length_cons → yc,drop_eq_getElem_cons → yd,length_append → yf,length_nil → yg,all_eq_true → yh,mem_cons → yj,all_cons → yk,length_map → yl,headD_cons → ym,all_nil → yn,mem_singleton → yp,not_mem_nil → yq,drop_length → yr,mem_append → yu
open Bool renaming and_eq_true → ye
open Nat renaming le_refl → yt
namespace AC
open Go Go.A Go.A.Lex
structure LineOp (w : Int × Int) (o : POp) (d : Int) : Prop where
 may : zeI o = true
 ziy : ziy o = true
 dst : o.dst = d
 gives : zN o = w
 takes : zW o = o.args.map fun _ => w
 args : ∀ a ∈ o.args,1 ≤ a ∧ a < d
 ok : zyg o
theorem zom (o : POp) (i at' : Int) : ∀ (l : List (Int × Int)) (k : Nat),∀ u ∈ zai o i at' k l,∃ q,∃ h : q < l.length,u = ⟨o.args.getD (k + q) 0,l[q],i,at'⟩
 | [],_,u,h => by simp [zai] at h
 | s :: r,k,u,h => by
   rw [zai,yj] at h;rcases h with rfl | h
   ·exact ⟨0,by simp,rfl⟩
   ·obtain ⟨q,a,rfl⟩:=zom o i at' r (k + 1) u h
    refine ⟨q + 1,by simpa using a,?_⟩;have : k + (q + 1) = k + 1 + q:=(by omega);rw [this];rfl
theorem zgu (ask : Use → Int) : ∀ l : List Use,(∀ u ∈ l,ask u = 0) → zC ask l = 0
 | [],_ => rfl
 | u :: r,h => by rw [zC,if_pos (h u List.mem_cons_self)]; exact zgu ask r fun x a => h x (List.mem_cons_of_mem _ a)
structure MOp (sh : Int → Int × Int) (o : POp) (d : Int) : Prop where
 may : zeI o = true
 ziy : ziy o = true
 gives : (o.dst = d ∧ zN o = sh d ∧ 0 < (sh d).1) ∨ zN o = (0,0)
 takes : zW o = o.args.map sh
 args : ∀ a ∈ o.args,1 ≤ a ∧ a < d
 ok : zyg o
def nxt (d : Int) (o : POp) : Int:=if (zN o).1 ≤ 0 then d else d + 1
def zxK (sh : Int → Int × Int) : Int → List POp → Prop
 | _,[] => True
 | d,o :: r => MOp sh o d ∧ zxK sh (nxt d o) r
def zsf : Int → List POp → Int
 | d,[] => d
 | d,o :: r => zsf (nxt d o) r
theorem zBJ (d : Int) (o : POp) : d ≤ nxt d o:=by unfold nxt; split <;> omega
def zDM (x : PDef) (at' : Int) : Prop:=x.block = -1 ∨ (x.block = 0 ∧ x.at' < at')
structure LnInv (sh : Int → Int × Int) (k : Int) (d : Int) (D : zfe) : Prop where
 there : ∀ v,1 ≤ v → v < d → ∃ x,getM v D = some x ∧ x.shape = sh v ∧ zDM x k
 none' : ∀ v,d ≤ v → getM v D = none
def zCB (D : zfe) (u : Use) : Prop:=u.block = 0 ∧ ∃ x,getM u.v D = some x ∧ x.shape = u.shape ∧ zDM x u.at'
theorem zow (sh : Int → Int × Int) : ∀ (ops : List POp) (k : Nat) (d : Int) (D : zfe),1 ≤ d → zxK sh d ops → LnInv sh k d D →
  ∃ D',zdg 0 k D ops = (D',none) ∧ LnInv sh (k + ops.length : Nat) (zsf d ops) D' ∧ (∀ v,v < d → getM v D' = getM v D) ∧ ∀ u ∈ zJ 0 k ops,zCB D' u
 | [],k,d,D,_,_,hD => ⟨D,rfl,hD,fun _ _ => rfl,fun u h => by simp [zJ] at h⟩
 | o :: r,k,d,D,hd,hl,hD => by
   obtain ⟨l,E⟩:=hl
   have a : ∃ g,LnInv sh (k + 1 : Nat) (nxt d o) g ∧ (∀ v,v < d → getM v g = getM v D) ∧ zdg 0 k D (o :: r) = zdg 0 (k + 1) g r:=by
    rcases l.gives with ⟨m,n,G⟩ | w
    ·have t : (getM o.dst D).isNone = true:=by rw [m,hD.none' _ (by omega)]; rfl
     have y : nxt d o = d + 1:=(by unfold nxt; rw [n,if_neg (by omega)]);refine ⟨zfV o.dst ⟨0,k,zN o⟩ D,⟨fun v b p => ?_,fun v b => ?_⟩,fun v b => ?_,?_⟩
     ·rw [zeE,m]
      by_cases c : d = v
      ·rw [if_pos c]
       exact ⟨_,rfl,by rw [n,c],.inr ⟨rfl,by simp only []; omega⟩⟩
      ·rw [if_neg c]
       obtain ⟨x,i,e2,j⟩:=hD.there v b (by omega);exact ⟨x,i,e2,j.imp id fun e => ⟨e.1,by omega⟩⟩
     ·rw [zeE,m,if_neg (by omega)]
      exact hD.none' v (by omega)
     ·rw [zeE,m,if_neg (by omega)]
     ·rw [zdg,if_neg (by rw [n]; omega),if_pos t]
    ·have y : nxt d o = d:=by unfold nxt; rw [w,if_pos (by simp)]
     refine ⟨D,⟨fun v b p => ?_,fun v b => ?_⟩,fun v _ => rfl,?_⟩
     ·obtain ⟨x,i,e2,j⟩:=hD.there v b (by omega)
      exact ⟨x,i,e2,j.imp id fun e => ⟨e.1,by omega⟩⟩
     ·exact hD.none' v (by omega)
     ·rw [zdg,if_pos (by rw [w]; simp)]
   obtain ⟨g,C,s,B⟩:=a;have t:=zBJ d o;obtain ⟨D',i1,i2,i3,i4⟩:=zow sh r (k + 1) (nxt d o) g (by omega) E C;refine ⟨D',by rw [B,i1],?_,fun v b => by rw [i3 v (by omega),s v b],fun u hu => ?_⟩
   ·rw [yc,show k + (r.length + 1) = k + 1 + r.length from by omega]
    exact i2
   ·rw [zJ,yu] at hu
    rcases hu with hu | hu
    ·obtain ⟨q,H,rfl⟩:=zom o 0 k (zW o) 0 u hu
     have hlen : (zW o).length = o.args.length:=(by rw [l.takes,yl]);have f : q < o.args.length:=(by omega);have hm:=l.args o.args[q] (List.getElem_mem f);have z : (zW o)[q] = sh o.args[q]:=(by simp [l.takes]);have A : o.args.getD (0 + q) 0 = o.args[q]:=(by simp [f]);obtain ⟨x,i,e2,j⟩:=hD.there _ hm.1 hm.2;refine ⟨rfl,x,?_,?_,j⟩
     ·simp only [A]
      rw [i3 _ (by omega),s _ hm.2];exact i
     ·simp only [z]
      exact e2
    ·exact i4 u hu
theorem zkh (sh : Int → Int × Int) {P : POp → Prop} (a : ∀ o d,MOp sh o d → P o) : ∀ (ops : List POp) (d : Int),zxK sh d ops → ∀ o ∈ ops,P o
 | [],_,_,o,h => by simp at h
 | x :: r,d,hl,o,h => by
   rcases yj.1 h with rfl | h
   ·exact a _ _ hl.1
   ·exact zkh sh a r _ hl.2 o h
theorem zoy (sh : Int → Int × Int) : ∀ (ps : List Int) (i : Nat) (D : zfe),(∀ q,∀ h : q < ps.length,sh ((i + q : Nat) + 1) = (ps[q],1)) → LnInv sh 0 (i + 1) D → LnInv sh 0 ((i + ps.length : Nat) + 1) (zaX i D ps)
 | [],i,D,_,h => h
 | b :: r,i,D,hs,h => by
   have f:=hs 0 (by simp)
   have:=zoy sh r (i + 1) (zfV ((i : Int) + 1) ⟨-1,0,(b,1)⟩ D) (fun q e => by
    have:=hs (q + 1) (by simpa using e);rw [show i + 1 + q = i + (q + 1) from by omega]
    simpa using this) ⟨fun v a d => by
     rw [zeE]
     by_cases c : (i : Int) + 1 = v
     ·rw [if_pos c]
      refine ⟨_,rfl,?_,.inl rfl⟩;rw [← c];simpa using f.symm
     ·rw [if_neg c]
      exact h.there v a (by omega),fun v a => by
     rw [zeE,if_neg (by omega)]
     exact h.none' v (by omega)⟩
   rw [yc,show i + (r.length + 1) = i + 1 + r.length from by omega];exact this
theorem zsV (sh : Int → Int × Int) (ps : List Int) (ret : Int) (ops : List POp) (arg : Int) (g : ps.all zfX = true) (M : ps.length ≤ 16) (a : zfX ret = true)
  (G : ∀ q,∀ h : q < ps.length,sh ((q : Nat) + 1) = (ps[q],1)) (m : zxK sh (ps.length + 1) ops) (hlen : ops.length ≤ 500) (O : 1 ≤ arg) (z : arg < zsf (ps.length + 1) ops) (J : num arg = true) (s : sh arg = (ret,1)) :
  okF (zf7 ps ret ops arg) ∧ zfg (zf7 ps ret ops arg) 2 [-1] = 0 ∧ ∀ v : Int,1 ≤ v → v < zsf (ps.length + 1) ops → getM v (zdU (zf7 ps ret ops arg)) = some (sh v):=by
 have c : ∀ b,zfX b = true → num b = true:=fun b i => by simp only [num,ye,decide_eq_true_eq]; rcases zbM i with h | h | h | h | h <;> omega
 have r : ¬ ret = 0:=by rcases zbM a with h | h | h | h | h <;> omega
 have Q : okF (zf7 ps ret ops arg):=by
  refine ⟨by simp [zf7]; omega,by simp [zf7],fun x l => ?_,by simp [zf7]; omega⟩;simp only [zf7,yp] at l;subst l;exact ⟨by simp,by simpa using (by omega : ops.length ≤ 4294967296),by simp,zkh sh (fun o d h => h.ok) ops _ m,by simp⟩
 have N : zpM (zf7 ps ret ops arg) = true:=by
  have C : zlQ (zf7 ps ret ops arg) = 1 + ops.length:=by simp [zlQ,zf7]
  have A : ops.all ziy = true:=yh.2 (zkh sh (fun o d h => h.ziy) ops _ m);have p : num 0 = true:=rfl;have E : ps.all num = true:=yh.2 fun b i => c b (yh.1 g b i);unfold zpM;rw [C];have hd : ¬ 512 < 1 + ops.length:=by omega
  have t : ¬ 16 < ps.length:=by omega
  simp only [zf7,zvG,ztI,A,J,p,c ret a,E,zfh,hd,t,yc,yg,yk,yn];rfl
 have L : zfn (zf7 ps ret ops arg) 2 = true:=by
  have A : ops.all (ofS 2) = true:=yh.2 (zkh sh (fun o d h => by simp [ofS,h.may]) ops _ m);simp [zfn,zf7,zjS,a,A];exact fun x l => yh.1 g x l
 have I:=zoy sh ps 0 [] (fun q h => by simpa using G q h) ⟨fun v H n => by omega,fun _ _ => rfl⟩;rw [Nat.zero_add] at I;obtain ⟨j,H,n,_,P⟩:=zow sh ops 0 (ps.length + 1) (zaX 0 [] ps) (by omega) m I;have f : zgh (zf7 ps ret ops arg) = (j,none):=by rw [zzS,H]
 have y : ∀ u ∈ zcV (zf7 ps ret ops arg),zCB j u:=fun u hu => by
  rw [zyu,yu] at hu;rcases hu with hu | hu
  ·exact P u hu
  ·rw [if_neg r,yp] at hu
   subst hu;obtain ⟨x,k,e2,D⟩:=n.there arg O z;exact ⟨rfl,x,k,by rw [e2,s],D.imp id fun e => ⟨e.1,by simp only [zh2]; omega⟩⟩
 refine ⟨Q,?_,fun v K w => ?_⟩
 ·have k : zC (zg1 j) (zcV (zf7 ps ret ops arg)) = 0:=zgu _ _ fun u hu => by
   obtain ⟨_,x,h,_⟩:=y u hu;simp [zg1,h]
  have e2 : zC (zaP j) (zcV (zf7 ps ret ops arg)) = 0:=zgu _ _ fun u hu => by
   obtain ⟨_,x,h,C,_⟩:=y u hu;simp [zaP,zg6,h,C]
  have D : zC (zab j [-1]) (zcV (zf7 ps ret ops arg)) = 0:=zgu _ _ fun u hu => by
   obtain ⟨i,x,h,_,hd⟩:=y u hu;rcases hd with hd | ⟨hd,B⟩
   ·simp [zab,zg6,h,hd]
   ·simp [zab,zg6,h,i,hd,B]
  rw [zfg,N,zwa,L,f];simp [k,e2,D]
 ·obtain ⟨x,k,e2,_⟩:=n.there v K w
  rw [zdU,zoE v (zgh (zf7 ps ret ops arg)).1 [] (zuO _),f];simp only [k,e2]
theorem zeV {v : Int} (b : 1 ≤ v) (a : v ≤ 1023) : num v = true:=by simp only [num,ye,decide_eq_true_eq]; omega
theorem zix {v : Int} (b : 1 ≤ v) (a : v ≤ 1023) : value v = true:=by simp only [value,ye,decide_eq_true_eq]; omega
theorem zAu {b : Int} (h : zfX b = true) : num b = true:=by simp only [num,ye,decide_eq_true_eq]; rcases zbM h with h | h | h | h | h <;> omega
theorem zzC {b : Int} (h : zfX b = true) : 0 < b:=by rcases zbM h with h | h | h | h | h <;> omega
theorem zfS {b : Int} (h : zfX b = true) : zdl b 1 = true:=by simp [zdl,h]
section
variable (sh : Int → Int × Int)
theorem zAC (w d n : Int) (hw : zfX w = true) (e : 1 ≤ d) (a : d ≤ 1023) (i : 0 ≤ n) (h : n < 18446744073709551616) (g : zA5 n w = n) (b : sh d = (w,1)) : MOp sh ⟨0,w,1,d,[],n⟩ d:=by
 have c : zdz 0 = false:=rfl;have hm : zeI ⟨0,w,1,d,[],n⟩ = true:=by simp [zeI,zV,g,zix e a,zfS hw,c]
 refine ⟨hm,?_,.inl ⟨rfl,?_,by rw [b]; exact zzC hw⟩,?_,by simp,⟨⟨i,h⟩,by simp⟩⟩
 ·have n0 : num 0 = true:=rfl
  have f : num 1 = true:=rfl;simp [ziy,zeV e a,n0,f,zAu hw,zfh]
 ·rw [zN,hm,b]
  simp [c]
 ·rw [zW,if_pos hm]
  simp [zV]
theorem zBv (k w d a b : Int) (m : (arith k || asks k) = true) (hw : zfX w = true) (q : 1 ≤ d) (n : d ≤ 1023) (l : 1 ≤ a) (g : a < d) (e : 1 ≤ b) (i : b < d)
  (v : sh a = (w,1)) (t : sh b = (w,1)) (o : sh d = if 10 ≤ k then (1,1) else (w,1)) : MOp sh ⟨k,w,1,d,[a,b],0⟩ d:=by
 have f : 1 ≤ k ∧ k ≤ 12:=by
  simp only [arith,asks,Bool.or_eq_true,decide_eq_true_eq] at m;omega
 have r : ¬ k = 0:=by omega
 have j : zdz k = false:=by simp only [zdz,Bool.or_eq_false_iff,decide_eq_false_iff_not]; omega
 have s : zV ⟨k,w,1,d,[a,b],0⟩ = ([(w,1),(w,1)],true):=by
  cases c : arith k
  ·rw [c,Bool.false_or] at m
   simp [zV,r,c,m]
  ·simp [zV,r,c]
 have hm : zeI ⟨k,w,1,d,[a,b],0⟩ = true:=by simp [zeI,s,zix q n,zfS hw,j,zix l (by omega),zix e (by omega)]
 refine ⟨hm,?_,.inl ⟨rfl,?_,?_⟩,?_,?_,⟨⟨by simp,by simp⟩,by simp⟩⟩
 ·have u : num 1 = true:=rfl
  have y : num k = true:=by simp only [num,ye,decide_eq_true_eq]; omega
  simp [ziy,zeV q n,y,zeV l (by omega),zeV e (by omega),u,zAu hw,zfh]
 ·have h : ¬ k = 22:=by omega
  rw [zN,hm,o]
  by_cases c : 10 ≤ k
  ·simp [j,c,f.2]
  ·simp [j,c,h]
 ·rw [o]
  split
  ·simp
  ·exact zzC hw
 ·rw [zW,if_pos hm,s]
  simp [v,t]
 ·intro x p
  simp only [yj,yq,or_false] at p;rcases p with rfl | rfl
  ·exact ⟨l,g⟩
  ·exact ⟨e,i⟩
theorem ztK (w d a : Int) (hw : zfX w = true) (c : 8 ≤ w) (k : 1 ≤ d) (f : d ≤ 1023) (e : 1 ≤ a) (b : a < d) (m : sh a = (64,1)) (g : sh d = (w,1)) : MOp sh ⟨16,w,1,d,[a],0⟩ d:=by
 have h : zdz 16 = false:=rfl;have j : zV ⟨16,w,1,d,[a],0⟩ = ([(64,1)],true):=by simp [zV,arith,asks,c]
 have hm : zeI ⟨16,w,1,d,[a],0⟩ = true:=by simp [zeI,j,zix k f,zfS hw,h,zix e (by omega)]
 refine ⟨hm,?_,.inl ⟨rfl,?_,by rw [g]; exact zzC hw⟩,?_,?_,⟨⟨by simp,by simp⟩,by simp⟩⟩
 ·have l : num 1 = true:=rfl
  have n : num 16 = true:=rfl;simp [ziy,zeV k f,n,zeV e (by omega),l,zAu hw,zfh]
 ·rw [zN,hm,g]
  simp [h]
 ·rw [zW,if_pos hm,j]
  simp [m]
 ·intro x i
  simp only [yj,yq,or_false] at i;subst i;exact ⟨e,b⟩
theorem znI (w d a b : Int) : nxt d ⟨17,w,1,0,[a,b],0⟩ = d:=by
 have c : zdz 17 = true:=rfl;have : zN ⟨17,w,1,0,[a,b],0⟩ = (0,0):=by rw [zN,if_pos (.inr c)]
 rw [nxt,this,if_pos (by simp)]
theorem zBU {o : POp} {d : Int} (h : MOp sh o d) (hd : o.dst = d) (c : d ≠ 0) (a : zdz o.kind = false) : nxt d o = d + 1:=by
 rcases h.gives with ⟨_,g,b⟩ | g
 ·rw [nxt,g,if_neg (by omega)]
 ·exfalso
  have e : 0 < o.bits:=by
   have:=h.may;simp only [zeI,ye] at this;exact zzC (zeg this.1).1
  rw [zN,h.may,a] at g;simp only [Bool.true_eq_false,Bool.false_eq_true,or_self,if_false] at g;split at g
  ·simp at g
  ·split at g
   ·have:=congrArg Prod.fst g
    simp only [] at this;omega
   ·have:=congrArg Prod.fst g
    simp only [] at this;omega
end
structure RightF (f : PFunc) (tree : List Int) : Prop where
 ok : okF f
 isT : ziN f tree
 look : zfg f 2 tree = 0
def MTo (sh : Int → Int × Int) (d : Int) (ops : List POp) (e : Int) : Prop:=zxK sh d ops ∧ zsf d ops = e
theorem MTo.nil (sh : Int → Int × Int) (d : Int) : MTo sh d [] d:=⟨trivial,rfl⟩
theorem MTo.val {sh : Int → Int × Int} {d e : Int} {o : POp} {r : List POp} (h : MOp sh o d) (hd : o.dst = d) (f : d ≠ 0) (c : zdz o.kind = false) (b : MTo sh (d + 1) r e) : MTo sh d (o :: r) e:=by
 have a:=zBU sh h hd f c;exact ⟨⟨h,by rw [a]; exact b.1⟩,by rw [zsf,a]; exact b.2⟩
theorem MTo.st {sh : Int → Int × Int} {d e w a b : Int} {r : List POp} (h : MOp sh ⟨17,w,1,0,[a,b],0⟩ d) (c : MTo sh d r e) : MTo sh d (⟨17,w,1,0,[a,b],0⟩ :: r) e:=by
 have f:=znI d w a b;exact ⟨⟨h,by rw [znI]; exact c.1⟩,by rw [zsf,znI]; exact c.2⟩
theorem MTo.app {sh : Int → Int × Int} : ∀ {a : List POp} {d m e : Int} {b : List POp},MTo sh d a m → MTo sh m b e → MTo sh d (a ++ b) e
 | [],d,m,e,b,h,h' => by
   have : d = m:=h.2;subst this;exact h'
 | o :: r,d,m,e,b,h,h' => by
   have:=MTo.app (a:=r) (d:=nxt d o) ⟨h.1.2,h.2⟩ h';exact ⟨⟨h.1.1,this.1⟩,this.2⟩
theorem zyQ {sh : Int → Int × Int} {ps : List Int} {ret : Int} {ops : List POp} {arg d e : Int} (hd : (ps.length : Int) + 1 = d) (b : ps.all zfX = true) (g : ps.length ≤ 16) (a : zfX ret = true)
  (j : ∀ q,∀ h : q < ps.length,sh ((q : Nat) + 1) = (ps[q],1)) (i : MTo sh d ops e) (hlen : ops.length ≤ 500) (k : 1 ≤ arg) (f : arg < e) (m : arg ≤ 1023) (c : sh arg = (ret,1)) :
  RightF (zf7 ps ret ops arg) [-1] ∧ ∀ v : Int,1 ≤ v → v < e → getM v (zdU (zf7 ps ret ops arg)) = some (sh v):=by
 subst hd;obtain ⟨i,he⟩:=i;subst he;obtain ⟨o,l,n⟩:=zsV sh ps ret ops arg b g a j i hlen k f (zeV k m) c;exact ⟨⟨o,zzg ps ret ops arg,l⟩,n⟩
variable (a0 a1 a2 a3 a4 a5 a6 a7 a8 a9 : V)
def row (t : Int × Int) : List Fz:=[.lit (.int .i64 t.1),.lit (.int .u64 t.2)]
def rows (ts : List (Int × Int)) : List (List Fz):=ts.map row
def fF (ts : List (Int × Int)) (off : Int) : V:=.agg [.f (.sl (rows ts)),.f (.lit (.int .u64 off))]
theorem zfk {k n : Nat} (h : k < n) (a : n ≤ 9223372036854775807) : Go.IntKind.i64.wrap ((k : Int) + 1) = ((k + 1 : Nat) : Int):=by rw [wrap_i64] <;> omega
def zD : Int → List (Int × Int) → Bool
 | _,[] => true
 | last,t :: r => if t.1 ≤ last ∨ 1023 < t.1 ∨ t.2 = 0 then false else zD t.1 r
theorem zyT (a : List (Int × Int)) (off : Int) (j : a.length ≤ 9223372036854775807) : ∀ (d k : Nat) (last : Int) (a0 a1 a2 a4 a8 a9 : V),a.length - k = d → k ≤ a.length →
  (zD last (a.drop k) = true → exec T zdy ⟨[a0,a1,a2,vI last,a4,vL (rows a),vI a.length,vI k,a8,a9],[.cells 0 2 [[.f (.sl (rows a)),.f (.lit (.int .u64 off))]]],0,0⟩ = some (.exit 0,⟨[vU,vU,vU,vU,vU,vU,vU,vU,vU,vU],[.cells 0 2 [[.f (.sl (rows a)),.f (.lit (.int .u64 off))]]],0,0⟩)) ∧
  (zD last (a.drop k) = false → ∃ o,exec T zdy ⟨[a0,a1,a2,vI last,a4,vL (rows a),vI a.length,vI k,a8,a9],[.cells 0 2 [[.f (.sl (rows a)),.f (.lit (.int .u64 off))]]],0,0⟩ = some (.ret,⟨[vU,vU,vB false,vU,vU,vU,vU,vU,vU,vU],[.cells 0 2 [[.f (.sl (rows a)),.f (.lit (.int .u64 off))]],o],0,0⟩)):=by
 intro d
 induction d with
 | zero =>
   intro k last a0 a1 a2 a4 a8 a9 g e;have b : k = a.length:=(by omega);subst b;rw [xl zdy rfl,zgo];simp -implicitDefEqProofs only [go_sem,yv,yr,zD,true_implies,false_implies,reduceCtorEq]
 | succ d ih =>
   intro k last a0 a1 a2 a4 a8 a9 g e;have b : k < a.length:=(by omega);have hd : a.drop k = a[k] :: a.drop (k + 1):=yd b;have c : (k : Int) < (a.length : Int):=(by omega);have i : (rows a)[k]? = some (row a[k]):=(by simp [rows,b]);rw [xl zdy rfl,zgo,hd];simp -implicitDefEqProofs only [go_sem,c,ya,yb,i,row,zD]
   by_cases c1 : a[k].1 ≤ last
   ·simp -implicitDefEqProofs only [go_sem,c1,true_or]
    exact ⟨fun h => by simp at h,fun _ => ⟨_,rfl⟩⟩
   ·by_cases c2 : 1023 < a[k].1
    ·simp -implicitDefEqProofs only [go_sem,c1,c2,true_or,or_true]
     exact ⟨fun h => by simp at h,fun _ => ⟨_,rfl⟩⟩
    ·by_cases c3 : a[k].2 = 0
     ·simp -implicitDefEqProofs only [go_sem,c1,c2,c3,true_or,or_true]
      exact ⟨fun h => by simp at h,fun _ => ⟨_,rfl⟩⟩
     ·simp -implicitDefEqProofs only [go_sem,c1,c2,c3,zfk b j,or_false]
      exact ih (k + 1) _ _ _ _ _ _ _ (by omega) (by omega)
theorem ztJ (a : List (Int × Int)) (off : Int) (c : a.length ≤ 9223372036854775807) : call T 36 [fF a off] [] = some (zg4 (zD 0 a),[]):=by
 rw [zd (fn:=zfs) rfl];have h:=zyT a off c a.length 0 0
 cases hm : zD 0 a with
 | true =>
   have b:=fun a0 a1 a2 a4 a8 a9 => (h a0 a1 a2 a4 a8 a9 (by omega) (by omega)).1 hm;simp -implicitDefEqProofs only [go_sem,zfs,fF,rows,row,yl,yi] at b ⊢;simp -implicitDefEqProofs only [go_sem,b]
 | false =>
   obtain ⟨o,b⟩:=(h (fF a off) (.one (.ptr 0 0 0 0)) (vB false) vU vU vU (by omega) (by omega)).2 hm;simp -implicitDefEqProofs only [go_sem,zfs,fF,rows,yl,yi] at b ⊢;simp -implicitDefEqProofs only [go_sem,b]
end AC
namespace AC
open Go Go.A Go.A.Lex
theorem zr0 {ts : List (Int × Int)} {k : Nat} (a : k < ts.length) : (rows ts)[k]? = some (row ts[k]):=by simp [rows,a]
theorem zad (ts : List (Int × Int)) : (rows ts).length = ts.length:=by simp [rows]
theorem zvZ (ts : List (Int × Int)) (a b : Int) : rows ts ++ [[.lit (.int .i64 a),.lit (.int .u64 b)]] = rows (ts ++ [(a,b)]):=by simp [rows,row]
theorem zj7 : ∀ ts : List (Int × Int),Fz.beqs (rows ts) (rows ts) = true
 | [] => rfl
 | t :: r => by
   have:=zj7 r;simp only [rows,List.map_cons,row] at this ⊢;simp [Fz.beqs,Fz.beqR,Fz.beq,Value.beq,this]
theorem zM : rows [] = []:=rfl
def zr6 (a b : Int) (l : List (Int × Int)) : List (Int × Int):=if b = 0 then l else (a,b) :: l
def zcE (op : Int → Int → Int) : List (Int × Int) → List (Int × Int) → List (Int × Int)
 | [],[] => []
 | t :: ts,[] => zr6 t.1 (op t.2 0) (zcE op ts [])
 | [],u :: us => zr6 u.1 (op 0 u.2) (zcE op [] us)
 | t :: ts,u :: us => if t.1 < u.1 then zr6 t.1 (op t.2 0) (zcE op ts (u :: us)) else if u.1 < t.1 then zr6 u.1 (op 0 u.2) (zcE op (t :: ts) us) else zr6 t.1 (op t.2 u.2) (zcE op ts us)
 termination_by ts us => ts.length + us.length
def bx (ts : List (Int × Int)) (off : Int) : Ob:=.cells 0 2 [[.f (.sl (rows ts)),.f (.lit (.int .u64 off))]]
def bo6 (acc : List (Int × Int)) (off : Int) : Ob:=.cells 0 2 [[.ap 6 0 (rows acc),.f (.lit (.int .u64 off))]]
def zz : Ob:=.cells 0 2 [[.f (.sl []),.f (.lit (.int .u64 0))]]
theorem zhy (acc : List (Int × Int)) (a b : Int) (l : List (Int × Int)) : acc ++ zr6 a b l = (if b = 0 then acc else acc ++ [(a,b)]) ++ l:=by
 unfold zr6;split <;> simp
theorem zwy (xs ys : List (List Fz)) : V.beq (.one (.f (.sl xs))) (.one (.f (.sl ys))) = Fz.beqs xs ys:=by simp only [V.beq,C.beq,Fz.beq]
theorem zsS (k : IntKind) (a : Int) : V.beq (.one (.f (.lit (.int k a)))) (.one (.f (.lit (.int k a)))) = true:=by simp [V.beq,C.beq,Fz.beq,Value.beq]
theorem zxc (k c : IntKind) (a b : Int) (o : Nat) : V.beq (.one (.fp [.lit (.int k a),.lit (.int c b)] o)) (.one (.fp [.lit (.int k a),.lit (.int c b)] o)) = true:=by simp [V.beq,C.beq,Fz.beqR,Fz.beq,Value.beq]
def znq : Go.A.Code:=zj.p1
def zbJ : Go.A.Code:=zj.p2.p1.p2.p1.p1
def zsY : Go.A.Code:=zj.p2.p1.p2.p2
theorem zn7 : zj = .seq znq (.block 1 (.seq (.reg [w 9 (.al [.f (.lit (.int .i64 0)),.f (.lit (.int .u64 0))] [])]) (.seq (.block 2 zbJ) zsY))):=rfl
section
variable (a0 a1 : V) (op : Int → Int → Int) (g : Nat) (caps : List C) (o0 o1 o2 : Ob) (ts us acc : List (Int × Int)) (off off' off2 : Int) (i k : Nat) (hl : ts.length + us.length ≤ 4294967296)
abbrev zeu (i k : V) (b9 b10 b11 b12 b13 : V) : List V:=[a0,a1,.one (.fn g [] caps),.one (.ptr 3 0 0 0),.one (.ptr 4 0 0 0),.one (.ptr 5 0 0 0),.one (.ptr 7 0 0 0),i,k,b9,b10,b11,b12,b13]
abbrev bst (tl : List Ob) : zb:=o0 :: o1 :: o2 :: bx ts off :: bx us off' :: zz :: .tok 2 [acc.length] :: bo6 acc off2 :: tl
def ob8 (v s : Int) : Ob:=.cells 0 2 [[.f (.lit (.int .i64 v)),.f (.lit (.int .u64 s))]]
theorem zvv (h : i < ts.length ∨ k < us.length) (a9 a10 a11 a12 a13 : V) : exec T znq ⟨zeu a0 a1 g caps (vI i) (vI k) a9 a10 a11 a12 a13,bst o0 o1 o2 ts us acc off off' off2 [],3,3⟩ = some (.normal,⟨zeu a0 a1 g caps (vI i) (vI k) a9 (vB true) a11 a12 a13,bst o0 o1 o2 ts us acc off off' off2 [],3,3⟩):=by
 unfold znq zj Code.p1
 by_cases ci : i < ts.length
 ·have a : (i : Int) < (ts.length : Int):=by omega
  simp -implicitDefEqProofs only [go_sem,zeu,bst,bx,bo6,zz,zad,a]
 ·have a : ¬ (i : Int) < (ts.length : Int):=by omega
  have b : (k : Int) < (us.length : Int):=by omega
  simp -implicitDefEqProofs only [go_sem,zeu,bst,bx,bo6,zz,zad,a,b]
theorem zsE (b : i = ts.length) (c : k = us.length) (a : C.lts 8 caps = true) (e : o0.lt 8 = true) (f : o1.lt 8 = true) (d : o2.lt 8 = true) (a9 a10 a11 a12 a13 : V) : exec T znq ⟨zeu a0 a1 g caps (vI i) (vI k) a9 a10 a11 a12 a13,bst o0 o1 o2 ts us acc off off' off2 [],3,3⟩ =
  some (.exit 0,⟨[vU,vU,vU,vU,vU,.one (.ptr 5 0 0 0),.one (.ptr 7 0 0 0),vU,vU,vU,vU,vU,vU,vU],bst o0 o1 o2 ts us acc off off' off2 [],3,3⟩):=by
 subst b;subst c;unfold znq zj Code.p1;simp -implicitDefEqProofs only [go_sem,zeu,bst,bx,bo6,zz,zad,yv]
include hl in
theorem zun (i j : V) (k : acc.length < ts.length + us.length) (v s : Int) (c d e f : V) : ∃ b,exec T zsY ⟨zeu a0 a1 g caps i j (.one (.ptr 8 0 0 0)) c d e f,bst o0 o1 o2 ts us acc off off' off2 [ob8 v s],3,3⟩ =
  some (.normal,⟨zeu a0 a1 g caps i j (.one (.ptr 8 0 0 0)) c d e b,bst o0 o1 o2 ts us (if s = 0 then acc else acc ++ [(v,s)]) off off' off2 [ob8 v s],3,3⟩):=by
 have a : acc.length + 1 ≤ LIM:=by unfold LIM; omega
 unfold zsY zj Code.p1 Code.p2
 by_cases h : s = 0
 ·exact ⟨vB false,by simp -implicitDefEqProofs only [go_sem,zeu,bst,bx,bo6,zz,ob8,zad,h,decide_true]⟩
 ·exact ⟨vB true,by simp -implicitDefEqProofs only [go_sem,zeu,bst,bx,bo6,zz,ob8,zad,h,decide_false,a,zvZ]⟩
def znk : Go.A.Code:=zbJ.p1
def zsO : Go.A.Code:=zbJ.p2.p1.p1
def zsT : Go.A.Code:=zbJ.p2.p1.p2
def zsm : Go.A.Code:=zbJ.p2.p2.p1
def zso : Go.A.Code:=zbJ.p2.p2.p2.p1.p1
def zsW : Go.A.Code:=zbJ.p2.p2.p2.p1.p2
def zs1 : Go.A.Code:=zbJ.p2.p2.p2.p2.p1
def zr7 : Go.A.Code:=zbJ.p2.p2.p2.p2.p2
theorem zf9 : zbJ = .seq znk (.cond (.s 11) (.seq zsO zsT) (.seq zsm (.cond (.s 12) (.seq zso zsW) (.seq zs1 zr7)))):=rfl
variable (a10 a11 a12 a13 : V)
abbrev vp8 : V:=.one (.ptr 8 0 0 0)
theorem zqN (h : k = us.length ∨ ∃ (d : i < ts.length) (c : k < us.length),ts[i].1 < us[k].1) (c : k ≤ us.length) : exec T znk ⟨zeu a0 a1 g caps (vI i) (vI k) vp8 a10 a11 a12 a13,bst o0 o1 o2 ts us acc off off' off2 [ob8 0 0],3,3⟩ =
  some (.normal,⟨zeu a0 a1 g caps (vI i) (vI k) vp8 a10 (vB true) a12 a13,bst o0 o1 o2 ts us acc off off' off2 [ob8 0 0],3,3⟩):=by
 unfold znk zbJ zj Code.p1 Code.p2
 by_cases ck : k = us.length
 ·subst ck
  simp -implicitDefEqProofs only [go_sem,zeu,bst,bx,bo6,zz,ob8,zad]
 ·have a : ¬ (k : Int) = (us.length : Int):=by omega
  rcases h with h | ⟨d,c,h⟩
  ·exact absurd h ck
  have b : (i : Int) < (ts.length : Int):=by omega
  simp -implicitDefEqProofs only [go_sem,zeu,bst,bx,bo6,zz,ob8,zad,a,b,ya,yb,zr0 d,zr0 c,row,h]
theorem znD (c : k < us.length) (h : ∀ hi : i < ts.length,¬ ts[i].1 < us[k].1) : exec T znk ⟨zeu a0 a1 g caps (vI i) (vI k) vp8 a10 a11 a12 a13,bst o0 o1 o2 ts us acc off off' off2 [ob8 0 0],3,3⟩ =
  some (.normal,⟨zeu a0 a1 g caps (vI i) (vI k) vp8 a10 (vB false) a12 a13,bst o0 o1 o2 ts us acc off off' off2 [ob8 0 0],3,3⟩):=by
 unfold znk zbJ zj Code.p1 Code.p2;have b : ¬ (k : Int) = (us.length : Int):=by omega
 by_cases hi : i < ts.length
 ·have a : (i : Int) < (ts.length : Int):=by omega
  simp -implicitDefEqProofs only [go_sem,zeu,bst,bx,bo6,zz,ob8,zad,b,a,ya,yb,zr0 hi,zr0 c,row,h hi]
 ·have a : ¬ (i : Int) < (ts.length : Int):=by omega
  simp -implicitDefEqProofs only [go_sem,zeu,bst,bx,bo6,zz,ob8,zad,b,a]
theorem zkG (b : i ≤ ts.length) (e : k < us.length) (c : Bool) (h : (∃ h : i < ts.length,c = decide (us[k].1 < ts[i].1)) ∨ (i = ts.length ∧ c = true)) : exec T zsm ⟨zeu a0 a1 g caps (vI i) (vI k) vp8 a10 a11 a12 a13,bst o0 o1 o2 ts us acc off off' off2 [ob8 0 0],3,3⟩ =
  some (.normal,⟨zeu a0 a1 g caps (vI i) (vI k) vp8 a10 a11 (vB c) a13,bst o0 o1 o2 ts us acc off off' off2 [ob8 0 0],3,3⟩):=by
 unfold zsm zbJ zj Code.p1 Code.p2;rcases h with ⟨b,h⟩ | ⟨h,d⟩
 ·have a : ¬ (i : Int) = (ts.length : Int):=by omega
  simp -implicitDefEqProofs only [go_sem,zeu,bst,bx,bo6,zz,ob8,zad,a,ya,yb,zr0 b,zr0 e,row,h]
 ·subst d
  subst h;simp -implicitDefEqProofs only [go_sem,zeu,bst,bx,bo6,zz,ob8,zad]
section
variable (hdo : ∀ a b τ,call T g (zge a :: zge b :: caps.map V.one) (o0 :: o1 :: o2 :: τ) = some (zge (op a b),o0 :: o1 :: o2 :: τ))
include hdo
theorem zoL (a : i < ts.length) : exec T zsO ⟨zeu a0 a1 g caps (vI i) (vI k) vp8 a10 a11 a12 a13,bst o0 o1 o2 ts us acc off off' off2 [ob8 0 0],3,3⟩ =
  some (.normal,⟨zeu a0 a1 g caps (vI i) (vI k) vp8 a10 a11 a12 a13,bst o0 o1 o2 ts us acc off off' off2 [ob8 ts[i].1 (op ts[i].2 0)],3,3⟩):=by
 unfold zsO zbJ zj Code.p1 Code.p2;simp -implicitDefEqProofs only [go_sem,zeu,bst,bx,bo6,zz,ob8,zjW,zrZ,zaZ,zkU,yk,yn,ym,zwy,zxc,zsS,zj7,ya,yb,zr0 a,row,hdo]
theorem zo3 (a : k < us.length) : exec T zso ⟨zeu a0 a1 g caps (vI i) (vI k) vp8 a10 a11 a12 a13,bst o0 o1 o2 ts us acc off off' off2 [ob8 0 0],3,3⟩ =
  some (.normal,⟨zeu a0 a1 g caps (vI i) (vI k) vp8 a10 a11 a12 a13,bst o0 o1 o2 ts us acc off off' off2 [ob8 us[k].1 (op 0 us[k].2)],3,3⟩):=by
 unfold zso zbJ zj Code.p1 Code.p2;simp -implicitDefEqProofs only [go_sem,zeu,bst,bx,bo6,zz,ob8,zjW,zrZ,zaZ,zkU,yk,yn,ym,zwy,zxc,zsS,zj7,ya,yb,zr0 a,row,hdo]
theorem zuA (b : i < ts.length) (a : k < us.length) : exec T zs1 ⟨zeu a0 a1 g caps (vI i) (vI k) vp8 a10 a11 a12 a13,bst o0 o1 o2 ts us acc off off' off2 [ob8 0 0],3,3⟩ =
  some (.normal,⟨zeu a0 a1 g caps (vI i) (vI k) vp8 a10 a11 a12 a13,bst o0 o1 o2 ts us acc off off' off2 [ob8 ts[i].1 (op ts[i].2 us[k].2)],3,3⟩):=by
 unfold zs1 zbJ zj Code.p1 Code.p2;simp -implicitDefEqProofs only [go_sem,zeu,bst,bx,bo6,zz,ob8,zjW,zrZ,zaZ,zkU,yk,yn,ym,zwy,zxc,zsS,zj7,ya,yb,zr0 b,zr0 a,row,hdo]
end
theorem zox (a : i < ts.length) (hw : ts.length ≤ 9223372036854775807) (τ : zb) : exec T zsT ⟨zeu a0 a1 g caps (vI i) (vI k) vp8 a10 a11 a12 a13,τ,3,3⟩ =
  some (.normal,⟨zeu a0 a1 g caps (vI (i + 1 : Nat)) (vI k) vp8 a10 a11 a12 a13,τ,3,3⟩):=by
 unfold zsT zbJ zj Code.p1 Code.p2;simp -implicitDefEqProofs only [go_sem,zeu,zfk a hw]
theorem zoQ (a : k < us.length) (hw : us.length ≤ 9223372036854775807) (τ : zb) : exec T zsW ⟨zeu a0 a1 g caps (vI i) (vI k) vp8 a10 a11 a12 a13,τ,3,3⟩ =
  some (.normal,⟨zeu a0 a1 g caps (vI i) (vI (k + 1 : Nat)) vp8 a10 a11 a12 a13,τ,3,3⟩):=by
 unfold zsW zbJ zj Code.p1 Code.p2;simp -implicitDefEqProofs only [go_sem,zeu,zfk a hw]
theorem zuM (c : i < ts.length) (b : k < us.length) (hw : ts.length ≤ 9223372036854775807) (a : us.length ≤ 9223372036854775807) (τ : zb) : exec T zr7 ⟨zeu a0 a1 g caps (vI i) (vI k) vp8 a10 a11 a12 a13,τ,3,3⟩ =
  some (.normal,⟨zeu a0 a1 g caps (vI (i + 1 : Nat)) (vI (k + 1 : Nat)) vp8 a10 a11 a12 a13,τ,3,3⟩):=by
 unfold zr7 zbJ zj Code.p1 Code.p2;simp -implicitDefEqProofs only [go_sem,zeu,zfk c hw,zfk b a]
theorem zhD (op : Int → Int → Int) (g : Nat) (caps : List C) (o0 o1 o2 : Ob) (e : C.lts 8 caps = true) (n : o0.lt 8 = true) (o : o1.lt 8 = true) (m : o2.lt 8 = true)
  (ts us : List (Int × Int)) (off off' off2 : Int) (hl : ts.length + us.length ≤ 4294967296) (i k f h : Nat) (j : i < ts.length ∨ k < us.length) (acc : List (Int × Int)) (d : acc.length < ts.length + us.length) (a0 a1 a9 a10 a11 a12 a13 : V) (v s : Int)
  (a : ∀ b11 b12 b13,∃ c11 c12 c13,exec T zbJ ⟨zeu a0 a1 g caps (vI i) (vI k) vp8 (vB true) b11 b12 b13,bst o0 o1 o2 ts us acc off off' off2 [ob8 0 0],3,3⟩ =
   some (.normal,⟨zeu a0 a1 g caps (vI f) (vI h) vp8 (vB true) c11 c12 c13,bst o0 o1 o2 ts us acc off off' off2 [ob8 v s],3,3⟩)) (r : Option (Ex × St))
  (p : exec T zd7 ⟨zeu vU vU g caps (vI f) (vI h) vU vU vU vU vU,bst o0 o1 o2 ts us (if s = 0 then acc else acc ++ [(v,s)]) off off' off2 [],3,3⟩ = r) :
  exec T zd7 ⟨zeu a0 a1 g caps (vI i) (vI k) a9 a10 a11 a12 a13,bst o0 o1 o2 ts us acc off off' off2 [],3,3⟩ = r:=by
 obtain ⟨c11,c12,c13,a⟩:=a a11 a12 a13;obtain ⟨c,l⟩:=zun a0 a1 g caps o0 o1 o2 ts us acc off off' off2 hl (vI f) (vI h) d v s (vB true) c11 c12 c13;refine zBZ (b:=zj) (s1:=⟨zeu a0 a1 g caps (vI f) (vI h) vp8 (vB true) c11 c12 c,bst o0 o1 o2 ts us (if s = 0 then acc else acc ++ [(v,s)]) off off' off2 [ob8 v s],3,3⟩) rfl ?_ ?_ p
 ·rw [zn7]
  refine ziG (zvv a0 a1 g caps o0 o1 o2 ts us acc off off' off2 i k j a9 a10 a11 a12 a13) (ztr (ziG (s1:=⟨zeu a0 a1 g caps (vI i) (vI k) vp8 (vB true) a11 a12 a13,bst o0 o1 o2 ts us acc off off' off2 [ob8 0 0],3,3⟩) ?_ (ziG (ztr a) l)));simp -implicitDefEqProofs only [go_sem,zeu,bst,bx,bo6,zz,ob8]
 ·unfold Ob.lt at n o m
  simp -implicitDefEqProofs only [go_sem,zeu,bst,bx,bo6,zz,ob8,e,n,o,m]
theorem zxg (op : Int → Int → Int) (g : Nat) (caps : List C) (o0 o1 o2 : Ob) (c : C.lts 8 caps = true) (u : o0.lt 8 = true) (v : o1.lt 8 = true) (t : o2.lt 8 = true)
  (hdo : ∀ a b τ,call T g (zge a :: zge b :: caps.map V.one) (o0 :: o1 :: o2 :: τ) = some (zge (op a b),o0 :: o1 :: o2 :: τ))
  (ts us : List (Int × Int)) (off off' off2 : Int) (hl : ts.length + us.length ≤ 4294967296) :
  ∀ (d i k : Nat) (acc : List (Int × Int)) (a0 a1 a9 a10 a11 a12 a13 : V),(ts.length - i) + (us.length - k) ≤ d → i ≤ ts.length → k ≤ us.length → acc.length ≤ i + k →
  exec T zd7 ⟨zeu a0 a1 g caps (vI i) (vI k) a9 a10 a11 a12 a13,bst o0 o1 o2 ts us acc off off' off2 [],3,3⟩ =
  some (.exit 0,⟨[vU,vU,vU,vU,vU,.one (.ptr 5 0 0 0),.one (.ptr 7 0 0 0),vU,vU,vU,vU,vU,vU,vU],
   bst o0 o1 o2 ts us (acc ++ zcE op (ts.drop i) (us.drop k)) off off' off2 [],3,3⟩):=by
 intro d
 induction d with
 | zero =>
   intro i k acc a0 a1 a9 a10 a11 a12 a13 z p r x;have j : i = ts.length:=(by omega);have e : k = us.length:=(by omega);refine zBh (b:=zj) rfl ?_ (by simp);rw [zn7];refine zBI ?_ (by simp);rw [zsE a0 a1 g caps o0 o1 o2 ts us acc off off' off2 i k j e c u v t];subst j;subst e;simp only [yr,zcE,List.append_nil]
 | succ d ih =>
   intro i k acc a0 a1 a9 a10 a11 a12 a13 z p r x
   by_cases j : i < ts.length
   ·have m : ts.drop i = ts[i] :: ts.drop (i + 1):=yd j
    by_cases e : k < us.length
    ·have l : us.drop k = us[k] :: us.drop (k + 1):=yd e
     by_cases o : ts[i].1 < us[k].1
     ·refine zhD op g caps o0 o1 o2 c u v t ts us off off' off2 hl i k (i + 1) k (.inl j) acc (by omega) a0 a1 a9 a10 a11 a12 a13 ts[i].1 (op ts[i].2 0) (fun s n f => ⟨vB true,n,f,?_⟩) _ ?_
      ·rw [zf9]
       exact ziG (zqN a0 a1 g caps o0 o1 o2 ts us acc off off' off2 i k _ _ _ _ (.inr ⟨j,e,o⟩) r) (zCU rfl (ziG (zoL a0 a1 op g caps o0 o1 o2 ts us acc off off' off2 i k _ _ _ _ hdo j) (zox a0 a1 g caps ts i k _ _ _ _ j (by omega) _)))
      ·rw [ih (i + 1) k _ _ _ _ _ _ _ _ (by omega) (by omega) (by omega) (by split <;> (try rw [yf]) <;> (try simp only [yc,yg]) <;> omega),m,l,zcE,if_pos o,zhy]
     ·by_cases q : us[k].1 < ts[i].1
      ·refine zhD op g caps o0 o1 o2 c u v t ts us off off' off2 hl i k i (k + 1) (.inl j) acc (by omega) a0 a1 a9 a10 a11 a12 a13 us[k].1 (op 0 us[k].2) (fun s n f => ⟨vB false,vB true,f,?_⟩) _ ?_
       ·rw [zf9]
        exact ziG (znD a0 a1 g caps o0 o1 o2 ts us acc off off' off2 i k _ _ _ _ e (fun _ => o)) (zCS rfl (ziG (zkG a0 a1 g caps o0 o1 o2 ts us acc off off' off2 i k _ _ _ _ p e true (.inl ⟨j,by simp [q]⟩)) (zCU rfl (ziG (zo3 a0 a1 op g caps o0 o1 o2 ts us acc off off' off2 i k _ _ _ _ hdo e) (zoQ a0 a1 g caps us i k _ _ _ _ e (by omega) _)))))
       ·rw [ih i (k + 1) _ _ _ _ _ _ _ _ (by omega) (by omega) (by omega) (by split <;> (try rw [yf]) <;> (try simp only [yc,yg]) <;> omega),m,l,zcE,if_neg o,if_pos q,zhy]
      ·refine zhD op g caps o0 o1 o2 c u v t ts us off off' off2 hl i k (i + 1) (k + 1) (.inl j) acc (by omega) a0 a1 a9 a10 a11 a12 a13 ts[i].1 (op ts[i].2 us[k].2) (fun s n f => ⟨vB false,vB false,f,?_⟩) _ ?_
       ·rw [zf9]
        exact ziG (znD a0 a1 g caps o0 o1 o2 ts us acc off off' off2 i k _ _ _ _ e (fun _ => o)) (zCS rfl (ziG (zkG a0 a1 g caps o0 o1 o2 ts us acc off off' off2 i k _ _ _ _ p e false (.inl ⟨j,by simp [q]⟩)) (zCS rfl (ziG (zuA a0 a1 op g caps o0 o1 o2 ts us acc off off' off2 i k _ _ _ _ hdo j e) (zuM a0 a1 g caps ts us i k _ _ _ _ j e (by omega) (by omega) _)))))
       ·rw [ih (i + 1) (k + 1) _ _ _ _ _ _ _ _ (by omega) (by omega) (by omega) (by split <;> (try rw [yf]) <;> (try simp only [yc,yg]) <;> omega),m,l,zcE,if_neg o,if_neg q,zhy]
    ·have w : k = us.length:=by omega
     have l : us.drop k = []:=(by simp [w]);refine zhD op g caps o0 o1 o2 c u v t ts us off off' off2 hl i k (i + 1) k (.inl j) acc (by omega) a0 a1 a9 a10 a11 a12 a13 ts[i].1 (op ts[i].2 0) (fun s n f => ⟨vB true,n,f,?_⟩) _ ?_
     ·rw [zf9]
      exact ziG (zqN a0 a1 g caps o0 o1 o2 ts us acc off off' off2 i k _ _ _ _ (.inl w) r) (zCU rfl (ziG (zoL a0 a1 op g caps o0 o1 o2 ts us acc off off' off2 i k _ _ _ _ hdo j) (zox a0 a1 g caps ts i k _ _ _ _ j (by omega) _)))
     ·rw [ih (i + 1) k _ _ _ _ _ _ _ _ (by omega) (by omega) (by omega) (by split <;> (try rw [yf]) <;> (try simp only [yc,yg]) <;> omega),m,l,zcE,zhy]
   ·have y : i = ts.length:=by omega
    have m : ts.drop i = []:=by simp [y]
    by_cases e : k < us.length
    ·have l : us.drop k = us[k] :: us.drop (k + 1):=yd e
     refine zhD op g caps o0 o1 o2 c u v t ts us off off' off2 hl i k i (k + 1) (.inr e) acc (by omega) a0 a1 a9 a10 a11 a12 a13 us[k].1 (op 0 us[k].2) (fun s n f => ⟨vB false,vB true,f,?_⟩) _ ?_
     ·rw [zf9]
      exact ziG (znD a0 a1 g caps o0 o1 o2 ts us acc off off' off2 i k _ _ _ _ e (fun h => absurd h j)) (zCS rfl (ziG (zkG a0 a1 g caps o0 o1 o2 ts us acc off off' off2 i k _ _ _ _ p e true (.inr ⟨y,rfl⟩)) (zCU rfl (ziG (zo3 a0 a1 op g caps o0 o1 o2 ts us acc off off' off2 i k _ _ _ _ hdo e) (zoQ a0 a1 g caps us i k _ _ _ _ e (by omega) _)))))
     ·rw [ih i (k + 1) _ _ _ _ _ _ _ _ (by omega) (by omega) (by omega) (by split <;> (try rw [yf]) <;> (try simp only [yc,yg]) <;> omega),m,l,zcE,zhy]
    ·exact ih i k acc a0 a1 a9 a10 a11 a12 a13 (by omega) p r x
theorem znA (op : Int → Int → Int) (g : Nat) (caps : List C) (o0 o1 o2 : Ob) (f : C.lts 8 caps = true) (j : ∀ n,3 ≤ n → o0.lt n = true) (k : ∀ n,3 ≤ n → o1.lt n = true) (i : ∀ n,3 ≤ n → o2.lt n = true)
  (hdo : ∀ a b τ,call T g (zge a :: zge b :: caps.map V.one) (o0 :: o1 :: o2 :: τ) = some (zge (op a b),o0 :: o1 :: o2 :: τ))
  (ts us : List (Int × Int)) (off off' : Int) (hl : ts.length + us.length ≤ 4294967296) :
  call T 135 [fF ts off,fF us off',.one (.fn g [] caps)] [o0,o1,o2] = some (fF (zcE op ts us) (op off off'),[o0,o1,o2]):=by
 rw [zd (fn:=zgy) rfl];have d:=j 3 (yt 3);have e:=k 3 (yt 3);have c:=i 3 (yt 3);unfold Ob.lt at d e c;have h:=zxg op g caps o0 o1 o2 f (j 8 (by omega)) (k 8 (by omega)) (i 8 (by omega)) hdo ts us off off' (op off off') hl (ts.length + us.length) 0 0 [];have h:=fun a0 a1 a9 a10 a11 a12 a13 => h a0 a1 a9 a10 a11 a12 a13 (by omega) (by omega) (by omega) (by simp);simp -implicitDefEqProofs only [go_sem,zgy,zeu,bst,bx,bo6,zz,fF,hdo,yi,zM,d,e,c] at h ⊢;simp -implicitDefEqProofs only [go_sem,h,bx,d,e,c]
end
abbrev zzE (x : Int) : Int:=Go.IntKind.u64.wrap x
def pl (a b : Int) : Int:=zzE (a + b)
def mi (a b : Int) : Int:=zzE (a - b)
def ti (n : Int) (a _b : Int) : Int:=zzE (a * n)
theorem zvu (a b : Int) (τ : zb) : call T 137 [zge a,zge b] τ = some (zge (pl a b),τ):=by
 rw [zd (fn:=ze6) rfl];simp -implicitDefEqProofs only [go_sem,ze6,pl,zzE]
theorem zsr (a b : Int) (τ : zb) : call T 136 [zge a,zge b] τ = some (zge (mi a b),τ):=by
 rw [zd (fn:=zet) rfl];simp -implicitDefEqProofs only [go_sem,zet,mi,zzE]
theorem zs8 (n : Int) (c d : Ob) (a b : Int) (τ : zb) : call T 138 [zge a,zge b,.one (.ptr 1 0 0 0)] (c :: .cells 0 1 [[.f (.lit (.int .u64 n))]] :: d :: τ) = some (zge (ti n a b),c :: .cells 0 1 [[.f (.lit (.int .u64 n))]] :: d :: τ):=by
 rw [zd (fn:=zeq) rfl];simp -implicitDefEqProofs only [go_sem,zeq,ti,zzE]
theorem zrT (a : List (Int × Int)) (off : Int) (b : a.length ≤ 9223372036854775807) : call T 175 [fF a off] [] = some (zg4 (!zD 0 a),[]):=by
 rw [zd (fn:=zfU) rfl];have h:=ztJ a off b;simp -implicitDefEqProofs only [go_sem,zfU,fF] at h ⊢;simp -implicitDefEqProofs only [go_sem,h]
theorem znZ (b us : List (Int × Int)) (off a : Int) (k : b.length ≤ 9223372036854775807) (e : us.length ≤ 9223372036854775807) :
  call T 225 [.one (.f (.sl [[.sl (rows b),.lit (.int .u64 off)],[.sl (rows us),.lit (.int .u64 a)]])),.one (.fn 175 [] [])] [] =
   some (vI (if zD 0 b then (if zD 0 us then -1 else 1) else 0),[]):=by
 rw [zd (fn:=z8) rfl];have h:=zrT b off k;have c:=zrT us a e;have g : IntKind.i64.wrap 1 = 1:=by decide
 have d : IntKind.i64.wrap 2 = 2:=by decide
 have n2 : ((2 : Nat) : Int) = 2:=rfl;have l : ∀ n : Nat,((n + 1 + 1 : Nat) : Int) = (n : Int) + 2:=fun n => by omega
 have m : (1 : Int) < 2:=by decide
 simp -implicitDefEqProofs only [go_sem,fF] at h c
 cases j : zD 0 b with
 | false =>
   simp -implicitDefEqProofs only [j,go_sem] at h;simp -implicitDefEqProofs only [go_sem,z8,xl zau rfl,zas,h,g,d,n2,yo]
 | true =>
   simp -implicitDefEqProofs only [j,go_sem] at h
   cases i : zD 0 us with
   | false =>
     simp -implicitDefEqProofs only [i,go_sem] at c;simp -implicitDefEqProofs only [go_sem,z8,xl zau rfl,zas,h,c,g,d,n2,yo]
   | true =>
     simp -implicitDefEqProofs only [i,go_sem] at c;simp -implicitDefEqProofs only [go_sem,z8,xl zau rfl,zas,h,c,g,d,n2,yo]
theorem zkP (b us : List (Int × Int)) (off a : Int) (g : b.length ≤ 9223372036854775807) (c : us.length ≤ 9223372036854775807) :
  call T 174 [.one (.f (.sl [[.sl (rows b),.lit (.int .u64 off)],[.sl (rows us),.lit (.int .u64 a)]])),.one (.fn 175 [] [])] [] =
   some (vB (!(zD 0 b && zD 0 us)),[]):=by
 rw [zd (fn:=zO) rfl];have h:=znZ b us off a g c;have j : decide ((0 : Int) ≤ -1) = false:=by decide
 have e2 : decide ((0 : Int) ≤ 1) = true:=by decide
 have i : decide ((0 : Int) ≤ 0) = true:=by decide
 cases d : zD 0 b with
 | false =>
   simp -implicitDefEqProofs only [d,go_sem] at h;simp -implicitDefEqProofs only [go_sem,zO,h,i]
 | true =>
   cases e : zD 0 us with
   | false =>
     simp -implicitDefEqProofs only [d,e,go_sem] at h;simp -implicitDefEqProofs only [go_sem,zO,h,e2]
   | true =>
     simp -implicitDefEqProofs only [d,e,go_sem] at h;simp -implicitDefEqProofs only [go_sem,zO,h,j]
theorem zt6 (b us : List (Int × Int)) (off a : Int) (d : b.length ≤ 9223372036854775807) (c : us.length ≤ 9223372036854775807) :
  call T 134 [.one (.f (.sl [[.sl (rows b),.lit (.int .u64 off)],[.sl (rows us),.lit (.int .u64 a)]]))] [] =
   some (vB (zD 0 b && zD 0 us),[]):=by
 rw [zd (fn:=zho) rfl];have h:=zkP b us off a d c;simp -implicitDefEqProofs only [go_sem,zho,h,Bool.not_not]
abbrev nF : V:=fF [] 0
theorem zwv (d us : List (Int × Int)) (off c : Int) (i : d.length + us.length ≤ 4294967296) :
  call T 82 [fF d off,fF us c] [] = some (if zD 0 d = true ∧ zD 0 us = true then fF (zcE pl d us) (pl off c) else nF,[]):=by
 rw [zd (fn:=zdC) rfl];have h:=zt6 d us off c (by omega) (by omega);have g:=znA pl 137 [] (bx d off) (bx us c) zz rfl (fun _ _ => rfl) (fun _ _ => rfl) (fun _ _ => rfl) (fun a b τ => zvu a b _) d us off c i;simp -implicitDefEqProofs only [go_sem,bx,zz,fF] at g
 cases e : zD 0 d with
 | false =>
   simp -implicitDefEqProofs only [e,go_sem] at h;simp -implicitDefEqProofs only [go_sem,zdC,fF,h,false_and,zM]
 | true =>
   cases f : zD 0 us with
   | false =>
     simp -implicitDefEqProofs only [e,f,go_sem] at h;simp -implicitDefEqProofs only [go_sem,zdC,fF,h,and_false,zM]
   | true =>
     simp -implicitDefEqProofs only [e,f,go_sem] at h;simp -implicitDefEqProofs only [go_sem,zdC,fF,h,g]
theorem zu7 (d us : List (Int × Int)) (off c : Int) (i : d.length + us.length ≤ 4294967296) :
  call T 81 [fF d off,fF us c] [] = some (if zD 0 d = true ∧ zD 0 us = true then fF (zcE mi d us) (mi off c) else nF,[]):=by
 rw [zd (fn:=zcY) rfl];have h:=zt6 d us off c (by omega) (by omega);have g:=znA mi 136 [] (bx d off) (bx us c) zz rfl (fun _ _ => rfl) (fun _ _ => rfl) (fun _ _ => rfl) (fun a b τ => zsr a b _) d us off c i;simp -implicitDefEqProofs only [go_sem,bx,zz,fF] at g
 cases e : zD 0 d with
 | false =>
   simp -implicitDefEqProofs only [e,go_sem] at h;simp -implicitDefEqProofs only [go_sem,zcY,fF,h,false_and,zM]
 | true =>
   cases f : zD 0 us with
   | false =>
     simp -implicitDefEqProofs only [e,f,go_sem] at h;simp -implicitDefEqProofs only [go_sem,zcY,fF,h,and_false,zM]
   | true =>
     simp -implicitDefEqProofs only [e,f,go_sem] at h;simp -implicitDefEqProofs only [go_sem,zcY,fF,h,g]
theorem zvx (c : List (Int × Int)) (off n : Int) (g : c.length ≤ 4294967296) :
  call T 83 [fF c off,zge n] [] = some (if zD 0 c = true then fF (zcE (ti n) c []) (ti n off 0) else nF,[]):=by
 rw [zd (fn:=zd5) rfl];have h:=ztJ c off (by omega);have d:=znA (ti n) 138 [.ptr 1 0 0 0] (bx c off) (.cells 0 1 [[.f (.lit (.int .u64 n))]]) zz rfl (fun _ _ => rfl) (fun _ _ => rfl) (fun _ _ => rfl) (fun a b τ => zs8 n _ _ a b _) c [] off 0 (by simpa using g);simp -implicitDefEqProofs only [go_sem,fF] at h;simp -implicitDefEqProofs only [go_sem,bx,zz,fF,zM] at d
 cases e : zD 0 c with
 | false =>
   simp -implicitDefEqProofs only [e,go_sem] at h;simp -implicitDefEqProofs only [go_sem,zd5,fF,h,zM]
 | true =>
   simp -implicitDefEqProofs only [e,go_sem] at h;simp -implicitDefEqProofs only [go_sem,zd5,fF,h,d]
end AC

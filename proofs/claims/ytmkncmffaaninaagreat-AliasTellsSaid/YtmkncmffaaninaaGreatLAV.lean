/- A part of the proof of AliasTells. Conditions: none. -/
import Derived.Test.YtmkncmffaaninaaGreatLAU
import Derived.Test.YtmkncmffaaninaaGreatLAO
import Derived.Test.YtmkncmffaaninaaGreatLAJ
import Derived.KernelRfl
import Derived.Test.YtmkncmffaaninaaGreatLAS
import Derived.Test.YtmkncmffaaninaaGreatLAE
import Derived.Test.YtmkncmffaaninaaGreatLAT
set_option linter.all false
open List renaming length_set → ya,replicate → yc,getD_eq_getElem?_getD → yd,drop_eq_getElem_cons → yf,length_replicate → yg,append_assoc → yh,getElem?_set_ne → yi,getElem_mem → yj,mem_cons_of_mem → yk,length_append → yn,mem_cons_self → yo,flatMap_cons → yp,eq_nil_of_length_eq_zero → yr,drop_zero → yx,length_cons → yy,mem_cons → yz,getElem?_eq_some_iff → yA,length_map → yB,getElem?_replicate → yC,drop_length → yE,length_take → yF,mem_iff_getElem? → yG,map_cons → yH,replicate_succ → yI,flatMap_append → yJ,map_replicate → yK,nil_append → yN,map_nil → yO,set_set → yQ
open And renaming intro → yb
open Int renaming toNat_natCast → ye,lt_irrefl → ym,natCast_zero → yt,natCast_nonneg → yu,le_refl → yv,add_emod → yM,mul_one → yP
open Nat renaming mul_one → yl,le_refl → yR
open Option renaming getD_some → yq,bind_some → yw,getD_none → yD
open Bool renaming and_eq_true → ys,and_self → yL
namespace AC
open Go Go.A
def zKs (v : Int) : zQ:=([(v,1)],0)
def zqo (D : ziS) (g : Int → zQ) (v : Int) : zQ:=match getM v D with
 | none => zKs v
 | some o => zha v (if o.bits ≠ 64 ∨ o.lanes ≠ 1 then none else if o.kind = 0 then some ([],o.imm) else if o.kind < 1 ∨ 8 < o.kind then none else match o.args with
   | a :: b :: _ => tell o.kind (g a) (g b)
   | _ => none)
def zHy (D : ziS) : Nat → Int → zQ
 | 0,v => zKs v
 | n + 1,v => zqo D (zHy D n) v
def val (D : ziS) (rk : Int → Nat) (v : Int) : zQ:=zHy D (rk v + 1) v
structure Ranked (D : ziS) (rk : Int → Nat) : Prop where
 dst : ∀ v o,getM v D = some o → o.dst = v
 imm : ∀ v o,getM v D = some o → 0 ≤ o.imm
 arg : ∀ v o,getM v D = some o → 1 ≤ o.kind → o.kind ≤ 8 → ∃ a b r,o.args = a :: b :: r ∧ rk a < rk v ∧ rk b < rk v ∧ (0 < a ∧ a < 1024) ∧ 0 < b ∧ b < 1024
theorem zvM {D : ziS} {d : Int → Nat} (h : Ranked D d) {g g' : Int → zQ} {v : Int} (e : ∀ w,d w < d v → g w = g' w) : zqo D g v = zqo D g' v:=by
 unfold zqo
 cases f : getM v D with
 | none => rfl
 | some o =>
   simp only
   by_cases c : o.kind < 1 ∨ 8 < o.kind
   ·simp only [if_pos c]
   ·obtain ⟨a,b,r,ea,r1,i,_⟩:=h.arg v o f (by omega) (by omega)
    rw [ea];simp only [e a r1,e b i]
theorem zrV {D : ziS} {a : Int → Nat} (h : Ranked D a) : ∀ (n m : Nat) (v : Int),a v < n → a v < m → zHy D n v = zHy D m v
 | 0,_,_,h1,_ => absurd h1 (by omega)
 | _ + 1,0,_,_,h2 => absurd h2 (by omega)
 | n + 1,m + 1,v,h1,h2 => by
   rw [zHy,zHy];exact zvM h fun w hw => zrV h n m w (by omega) (by omega)
theorem zwm {D : ziS} {a : Int → Nat} (h : Ranked D a) (v : Int) : val D a v = zqo D (val D a) v:=by
 unfold val;rw [zHy];exact zvM h fun w hw => zrV h _ _ w (by omega) (by omega)
theorem zGU {v : Int} {q : Option zQ} (h : ∀ g,q = some g → 0 ≤ g.2) : zJk (zha v q):=by
 unfold zha zJk
 cases q with
 | none => exact ⟨by simp,yv _⟩
 | some g =>
   simp only;split
   ·exact ⟨by simp,yv _⟩
   ·exact ⟨by omega,h g rfl⟩
theorem zGV {D : ziS} {c : Int → Nat} (h : Ranked D c) (g : Int → zQ) (v : Int) : zJk (zqo D g v):=by
 unfold zqo
 cases b : getM v D with
 | none => exact ⟨by simp [zKs],yv _⟩
 | some o =>
   refine zGU fun x a => ?_;split at a
   ·cases a
   split at a
   ·injection a with a; subst a; exact h.imm v o b
   split at a
   ·cases a
   split at a
   ·exact zE2 a
   ·cases a
theorem zp8 {D : ziS} {a : Int → Nat} (h : Ranked D a) (v : Int) : zJk (val D a v):=by rw [zwm h]; exact zGV h _ v
theorem zxR {v : Int} (b : 0 < v) (a : v < 1024) : zg 0 [(v,1)] = true:=by
 rw [zaX];exact ⟨by omega,by omega,by simp,rfl⟩
theorem zF9 {k : Int} {a b g : zQ} (h : tell k a b = some g) : zg 0 g.1 = true:=by
 have e : zg 0 (zlB a b).1 = true:=by
  unfold zlB;split
  ·rename_i c; exact zb1 pl _ _ 0 c.1 c.2
  ·rfl
 have f : zg 0 (zil a b).1 = true:=by
  unfold zil;split
  ·rename_i c; exact zb1 mi _ _ 0 c.1 c.2
  ·rfl
 have d : ∀ (x : zQ) (n : Int),zg 0 (zfV x n).1 = true:=fun x n => by
  unfold zfV;split
  ·rename_i c; exact zb1 (ti n) _ _ 0 c rfl
  ·rfl
 unfold tell at h;split at h
 ·injection h with h; subst h; exact e
 split at h
 ·injection h with h; subst h; exact f
 split at h
 ·injection h with h; subst h; exact d _ _
 split at h
 ·injection h with h; subst h; exact d _ _
 split at h
 ·injection h with h; subst h; exact d _ _
 ·cases h
theorem zFK {v : Int} (b : 0 < v) (a : v < 1024) {q : Option zQ} (h : ∀ g,q = some g → zg 0 g.1 = true) : zg 0 (zha v q).1 = true:=by
 unfold zha
 cases q with
 | none => exact zxR b a
 | some g =>
   simp only;split
   ·exact zxR b a
   ·exact h g rfl
theorem zGL {D : ziS} (g : Int → zQ) {v : Int} (c : 0 < v) (b : v < 1024) : zg 0 (zqo D g v).1 = true:=by
 unfold zqo
 cases d : getM v D with
 | none => exact zxR c b
 | some o =>
   refine zFK c b fun x a => ?_;split at a
   ·cases a
   split at a
   ·injection a with a; subst a; rfl
   split at a
   ·cases a
   split at a
   ·exact zF9 a
   ·cases a
theorem zup {D : ziS} {a : Int → Nat} (h : Ranked D a) {v : Int} (c : 0 < v) (b : v < 1024) : zg 0 (val D a v).1 = true:=by rw [zwm h]; exact zGL _ c b
def zIH (D : ziS) (rk : Int → Nat) (M : zuD) : Prop:=∀ v r,getM v M = some r → r = val D rk v
theorem zuj {D : ziS} {d : Int → Nat} (h : Ranked D d) : ∀ (n : Nat) (v : Int) (M : zuD),d v < n → zIH D d M → ∃ M',zly D n M v = some (val D d v,M') ∧ zIH D d M'
 | 0,_,_,hn,_ => absurd hn (by omega)
 | n + 1,v,M,hv,hM => by
   rw [zly]
   cases k : getM v M with
   | some r => exact ⟨M,by rw [hM v r k],hM⟩
   | none =>
     have hm : ∃ q f,zvq (zly D n) D M v = some (q,f) ∧ zIH D d f ∧ zha v q = val D d v:=by
      rw [zwm h];unfold zvq zqo
      cases l : getM v D with
      | none => exact ⟨none,M,rfl,hM,rfl⟩
      | some o =>
        simp only;split
        ·exact ⟨none,M,rfl,hM,rfl⟩
        split
        ·exact ⟨_,M,rfl,hM,rfl⟩
        split
        ·exact ⟨none,M,rfl,hM,rfl⟩
        ·rename_i c
         obtain ⟨a,b,r,ea,r1,p,_⟩:=h.arg v o l (by omega) (by omega);rw [ea];obtain ⟨f,e1,i1⟩:=zuj h n a M (by omega) hM;obtain ⟨m,e2,i2⟩:=zuj h n b f (by omega) i1;refine ⟨_,m,?_,i2,rfl⟩;simp only [e1,yw,e2];have t:=(zp8 h a).1;have s:=(zp8 h b).1;rw [if_pos ⟨by omega,(zp8 h b).2⟩]
     obtain ⟨q,f,e,i,j⟩:=hm;rw [e];refine ⟨zjb v (zha v q) f,by simp [j],fun w r g => ?_⟩;rw [zhl] at g;split at g
     ·rename_i ew
      injection g with g;rw [← g,j,ew]
     ·exact i w r g
abbrev zzc (f : PFunc) : ziS:=opsOf [] f.blocks
theorem zyF {f : PFunc} {v : Int} {o : POp} (h : getM v (zzc f) = some o) : ∃ b ∈ f.blocks,o ∈ b.ops ∧ o.dst = v:=by
 rcases zvG _ _ h with h | h
 ·simp [getM] at h
 ·exact h
theorem zk9 {f : PFunc} (x : okF f) {level : Int} (h : RightP f level) : Ranked (zzc f) (rkV f):=by
 refine ⟨fun v o l => ?_,fun v o l => ?_,fun v o l z A => ?_⟩
 ·obtain ⟨_,_,_,e⟩:=zyF l
  exact e
 ·obtain ⟨b,m,g,_⟩:=zyF l
  exact ((x.block b m).op o g).1.1
 ·obtain ⟨b,m,g,rfl⟩:=zyF l
  obtain ⟨k,q⟩:=yG.1 m;obtain ⟨j,s⟩:=yG.1 g;have i : zeO o = true:=zeo h.typed m g;have t:=znx i
  have B : (zaa o).length = 2:=by
   unfold zaa zr;rw [if_pos i]
   by_cases c : o.kind = 4
   ·simp [arith,asks,c]
   ·have u : arith o.kind = true:=by unfold arith; simp; omega
    simp [u,show ¬ o.kind = 0 by omega]
  have hd : 0 < o.dst:=by
   have y : zdr o.kind = false:=(by unfold zdr; simp; omega);unfold zeO at i;simp only [y,Bool.false_eq_true,if_false,ys] at i;have:=i.2.2.1;unfold value at this;simp only [ys,decide_eq_true_eq] at this;omega
  have p : ∀ w ∈ o.args,rkV f w < rkV f o.dst ∧ 0 < w ∧ w < 1024:=fun w hw => by
   refine ⟨zJc h q s hd hw,?_⟩;obtain ⟨d,n,rfl,_⟩:=h.arg q s hw;have:=h.values d n;unfold value at this;simp only [ys,decide_eq_true_eq] at this;omega
  match e : o.args with
  | [] => have : (zaa o).length = 0:=by rw [t,e]; rfl
          omega
  | [_] => have : (zaa o).length = 1:=by rw [t,e]; rfl
           omega
  | a :: b :: r =>
    obtain ⟨a1,a2⟩:=p a (by rw [e]; simp);obtain ⟨b1,b2⟩:=p b (by rw [e]; simp);exact ⟨a,b,r,rfl,a1,b1,a2,b2⟩
abbrev zxv (f : PFunc) : Int → zQ:=val (zzc f) (rkV f)
theorem zDa {f : PFunc} (b : okF f) {level : Int} (h : RightP f level) (v : Int) : ∃ n M',zly (zzc f) n [] v = some (zxv f v,M'):=by
 obtain ⟨M',e,_⟩:=zuj (zk9 b h) (rkV f v + 1) v [] (by omega) (fun v r a => by simp [getM] at a);exact ⟨_,M',e⟩
end AC
namespace AC
open Go Go.A Go.A.Lex
def cU (x : Int) : C:=.f (.lit (.int .u64 x))
theorem zKW : ((1024 : Nat) : Int) = 1024:=rfl
theorem zLv : ((1025 : Nat) : Int) = 1025:=rfl
attribute [go_sem] zKW zLv
abbrev obW (W : List Int) : Ob:=.cells 0 1025 [W.map cU]
def zEU : List (Int × Int) → List Int → List Int
 | [],W => W
 | t :: r,W => zEU r (W.set t.1.toNat t.2)
theorem zra : ∀ (l : List (Int × Int)) (W : List Int),(zEU l W).length = W.length
 | [],_ => rfl
 | t :: r,W => by rw [zEU,zra r]; simp
def W0 (off : Int) : List Int:=(yc 1025 (0 : Int)).set 1024 off
theorem zoQ (off : Int) : (W0 off).length = 1025:=by rw [W0,ya,yg]
theorem zBl {W : List Int} {j : Nat} (h : j < W.length) : (W.map cU)[j]? = some (.f (.lit (.int .u64 (W.getD j 0)))):=by simp [h,cU]
theorem zKz {W : List Int} {j : Nat} (x : Int) (h : j < W.length) : (W.map cU).take j ++ C.f (.lit (.int .u64 x)) :: (W.map cU).drop (j + 1) = (W.set j x).map cU:=by
 rw [zvo _ (by simpa using h),List.map_set];rfl
theorem ztI {last : Int} : ∀ {b : List (Int × Int)},zg last b = true → 0 ≤ last → ∀ t ∈ b,0 < t.1 ∧ t.1 ≤ 1023
 | [],_,_,t,h => by simp at h
 | u :: r,h,h0,t,a => by
   rw [zaX] at h;rcases yz.1 a with rfl | a
   ·omega
   ·exact ztI (last:=u.1) h.2.2.2 (by omega) t a
theorem zLg (a : List (Int × Int)) (off : Int) (l : a.length ≤ 4294967296) (hm : ∀ t ∈ a,0 < t.1 ∧ t.1 ≤ 1023) : ∀ (d k : Nat) (W : List Int) (a0 a2 a5 : V),W.length = 1025 → a.length - k = d → k ≤ a.length →
  exec T zb6 ⟨[a0,.one (.ptr 0 0 0 0),a2,.one (.ptr 1 0 0 0),vI k,a5],[bx a off,obW W],0,2⟩ =
   some (.exit 0,⟨[vU,vU,vU,.one (.ptr 1 0 0 0),vU,vU],[bx a off,obW (zEU (a.drop k) W)],0,2⟩):=by
 intro d
 induction d with
 | zero =>
   intro k W a0 a2 a5 c h f;have b : k = a.length:=(by omega);subst b;rw [xl zb6 rfl,zgc];simp -implicitDefEqProofs only [go_sem,bx,zv,ym,yE,zEU]
 | succ d ih =>
   intro k W a0 a2 a5 c h f;have b : k < a.length:=(by omega);have hd : a.drop k = a[k] :: a.drop (k + 1):=yf b;obtain ⟨p1,p2⟩:=hm _ (yj b);have e : 0 ≤ a[k].1:=(by omega);have g : a[k].1 < 1024:=(by omega);have i:=zKz (W:=W) (j:=a[k].1.toNat) a[k].2 (by omega);have hle:=zsK (show a[k].1.toNat < W.length by omega);have:=ih (k + 1) (W.set a[k].1.toNat a[k].2) vU vU vU (by simpa using c) (by omega) (by omega);rw [xl zb6 rfl,zgc,hd,zEU];simp -implicitDefEqProofs only [go_sem,obW,bx] at this;simp -implicitDefEqProofs only [go_sem,bx,obW,zv,ilt b,zwL b,row,yu,ye,e,g,yl,i,hle,za b l,this]
def zhw (ts : List (Int × Int)) (off : Int) : List Int:=zEU ts (W0 off)
theorem zea (a : List (Int × Int)) (off : Int) : (zhw a off).length = 1025:=by rw [zhw,zra,zoQ]
theorem zzn {α : Type} (c : α) : ∀ n : Nat,(yc n [c]).flatten = yc n c
 | 0 => rfl
 | n + 1 => by rw [yI,List.flatten_cons,zzn c n,yI]; rfl
def zJL : Go.A.Code:=zR.body.p2.p1
def zBQ : Go.A.Code:=zR.body.p2.p2
def zCl : Go.A.Code:=zR.body.p1
theorem zHt : zR.body = .seq zCl (.seq zJL zBQ):=rfl
theorem zGb : zJL = .reg [q (.fa 1 (.s 1)),q (.ld none (.l 0)),q (.bld ((yc 1025 [C.f (.lit (.int .u64 0))]).flatten) [(1024,1,(.l 0))] []),q (.box 1025 (.l 0)),w 3 (.mv (.l 0))]:=rfl
theorem zBP : zCl = .reg [w 1 (.box 2 (.s 0)),w 2 (.mv (.c (.one (.f (.lit (.pointer none))))))]:=rfl
theorem zB9 : zBQ = .seq (.seq (.reg [w 4 (.mv (i 0))]) (.block 0 zb6)) (.seq (.reg [q (.mv (.s 3)),w 2 (.mv (.l 0))]) (.ret [false,false,true,false,false,false])):=rfl
theorem zHe : ∀ W : List Int,C.kns (W.map cU) = true
 | [] => rfl
 | x :: r => by simp only [yH,cU,C.kns]; exact zHe r
theorem zKf (Z : List C) (W : List Int) (e : Z = W.map cU) (b : W.length = 1025) (c : List (Int × Int)) (off : Int) (a0 a2 a3 a4 a5 : V) :
  exec T (.reg [q (.fa 1 (.s 1)),q (.ld none (.l 0)),q (.bld Z [(1024,1,(.l 0))] []),q (.box 1025 (.l 0)),w 3 (.mv (.l 0))]) ⟨[a0,.one (.ptr 0 0 0 0),a2,a3,a4,a5],[bx c off],0,2⟩ =
   some (.normal,⟨[a0,.one (.ptr 0 0 0 0),a2,.one (.ptr 1 0 0 0),a4,a5],[bx c off,obW (W.set 1024 off)],0,2⟩):=by
 subst e;have d:=zKz (W:=W) (j:=1024) off (by omega);have a : (W.set 1024 off).length = 1025:=by rw [ya,b]
 simp -implicitDefEqProofs only [go_sem,bx,obW,b,d,a,zHe]
theorem zzN (a : List (Int × Int)) (off : Int) (b : a.length ≤ 4294967296) (hm : zg 0 a = true) : call T 141 [fF a off] [] = some (.one (.ptr 1 0 0 0),[bx a off,obW (zhw a off)]):=by
 rw [ze (fn:=zR) rfl,if_pos (show [fF a off].length = zR.np from rfl),zHt];have h:=fun a0 a2 a5 => zLg a off b (ztI hm (by omega)) a.length 0 (W0 off) a0 a2 a5 (zoQ off) (by omega) (by omega);simp only [yx,yt] at h
 have e0 : exec T zCl (enter zR [fF a off] []) = some (.normal,⟨[fF a off,.one (.ptr 0 0 0 0),.one (.f (.lit (.pointer none))),vU,vU,vU],[bx a off],0,2⟩):=by
  rw [zBP,show enter zR [fF a off] [] = ⟨[fF a off,vU,vU,vU,vU,vU],[],0,2⟩ from rfl];simp -implicitDefEqProofs only [go_sem,fF,bx]
 have e1:=zKf ((yc 1025 [C.f (.lit (.int .u64 0))]).flatten) (yc 1025 0) (by rw [zzn,yK]; rfl) (by rw [yg]) a off (fF a off) (.one (.f (.lit (.pointer none)))) vU vU vU;rw [← zGb] at e1;rw [zdY,e0];simp only [yw,zsm];rw [zdY,e1];simp only [yw,zsm]
 have e2 : exec T zBQ ⟨[fF a off,.one (.ptr 0 0 0 0),.one (.f (.lit (.pointer none))),.one (.ptr 1 0 0 0),vU,vU],[bx a off,obW (W0 off)],0,2⟩ = some (.ret,⟨[vU,vU,.one (.ptr 1 0 0 0),vU,vU,vU],[bx a off,obW (zhw a off)],0,2⟩):=by
  simp -implicitDefEqProofs only [go_sem,bx,obW] at h;rw [zB9];simp -implicitDefEqProofs only [go_sem,h,bx,obW,zhw]
 rw [show (yc 1025 (0 : Int)).set 1024 off = W0 off from rfl,e2];simp -implicitDefEqProofs only [go_sem,bx,obW,show zR.raw = false from rfl,show zR.results = [(2,none)] from rfl]
def comb (n m a b : Int) : Int:=ztp (ztp (a * n) + ztp (b * m))
def ziM (n m : Int) (B : List Int) : Nat → Nat → List Int → List Int
 | 0,_,W => W
 | d + 1,k,W => ziM n m B d (k + 1) (W.set k (comb n m (W.getD k 0) (B.getD k 0)))
theorem zmU (n m : Int) (B : List Int) : ∀ (d k : Nat) (W : List Int),(ziM n m B d k W).length = W.length
 | 0,_,_ => rfl
 | d + 1,k,W => by rw [ziM,zmU n m B d]; simp
theorem zkM (n m : Int) (B : List Int) : ∀ (d k : Nat) (W : List Int) (v : Nat),v < W.length → (ziM n m B d k W).getD v 0 = if k ≤ v ∧ v < k + d then comb n m (W.getD v 0) (B.getD v 0) else W.getD v 0
 | 0,k,W,v,_ => by rw [ziM,if_neg (by omega)]
 | d + 1,k,W,v,hv => by
   rw [ziM,zkM n m B d (k + 1) _ v (by simpa using hv)]
   by_cases e : k = v
   ·subst e
    rw [if_neg (by omega),if_pos (by omega)];simp [hv]
   ·have a : (W.set k (comb n m (W.getD k 0) (B.getD k 0))).getD v 0 = W.getD v 0:=by
     simp [yi e]
    rw [a]
    by_cases c : k ≤ v ∧ v < k + (d + 1)
    ·rw [if_pos c,if_pos (by omega)]
    ·rw [if_neg c,if_neg (by omega)]
abbrev zz2 : Ob:=.cells 0 2 [[.f (.sl []),.f (.lit (.int .u64 0))]]
theorem zJv (n m : Int) (o0 g e f : Ob) (p : ∀ k,o0.lt (k + 7) = true) (B : List Int) (q : B.length = 1025) : ∀ (d k : Nat) (W : List Int) (a0 a2 a4 a5 a : V),W.length = 1025 → d + k = 1024 →
  exec T zdA ⟨[a0,zf4 n,a2,zf4 m,a4,a5,.one (.ptr 2 0 0 0),.one (.ptr 4 0 0 0),.one (.ptr 6 0 0 0),vI k,a],[o0,g,zz2,e,obW W,f,obW B],0,0⟩ =
   some (.exit 0,⟨[vU,zf4 n,vU,zf4 m,vU,vU,.one (.ptr 2 0 0 0),.one (.ptr 4 0 0 0),.one (.ptr 6 0 0 0),vU,vU],[o0,g,zz2,e,obW (ziM n m B d k W),f,obW B],0,0⟩):=by
 intro d
 induction d with
 | zero =>
   intro k W a0 a2 a4 a5 a h o;have b : k = 1024:=(by omega);subst b;rw [xl zdA rfl,zfR];simp -implicitDefEqProofs only [go_sem,ym,ziM]
 | succ d ih =>
   intro k W a0 a2 a4 a5 a h o;have b : ((k : Int) < 1024) = True:=(by simp; omega);have l:=zBl (W:=W) (j:=k) (by omega);have i:=zBl (W:=B) (j:=k) (by omega);have c:=zKz (W:=W) (j:=k) (comb n m (W.getD k 0) (B.getD k 0)) (by omega);have hle:=zsK (show k < W.length by omega);have hw : Go.IntKind.i64.wrap ((k : Int) + 1) = ((k + 1 : Nat) : Int):=(by rw [wrap_i64] <;> omega);have:=ih (k + 1) (W.set k (comb n m (W.getD k 0) (B.getD k 0))) vU vU vU vU vU (by simpa using h) (by omega);rw [xl zdA rfl,zfR,ziM];unfold comb at c this ⊢;simp -implicitDefEqProofs only [go_sem,obW,ztp] at this c;simp -implicitDefEqProofs only [go_sem,obW,ztp,b,l,i,yu,ye,yl,c,hle,hw,this]
def zbe (W : List Int) : Nat → Nat → List (Int × Int)
 | 0,_ => []
 | d + 1,k => if W.getD k 0 = 0 then zbe W d (k + 1) else ((k : Int),W.getD k 0) :: zbe W d (k + 1)
theorem zHz (W : List Int) (p : W.length = 1025) (σ : zd) (id : Nat) (g : σ[id]? = some (obW W)) (m : Ok σ) (off : Int) : ∀ (d k : Nat) (acc : List (Int × Int)) (a4 a5 : V),acc.length ≤ k → d + k = 1024 →
  exec T zbb ⟨[.one (.ptr id 0 0 0),.one (.ptr σ.length 0 0 0),.one (.ptr (σ.length + 2) 0 0 0),vI k,a4,a5],σ ++ [zz2,.tok 2 [acc.length],.cells 0 2 [[.ap (σ.length + 1) 0 (rows acc),.f (.lit (.int .u64 off))]]],σ.length,σ.length⟩ =
   some (.exit 0,⟨[vU,.one (.ptr σ.length 0 0 0),.one (.ptr (σ.length + 2) 0 0 0),vU,vU,vU],σ ++ [zz2,.tok 2 [(acc ++ zbe W d k).length],.cells 0 2 [[.ap (σ.length + 1) 0 (rows (acc ++ zbe W d k)),.f (.lit (.int .u64 off))]]],σ.length,σ.length⟩):=by
 intro d;have a:=zdm g;have b:=zgU g
 induction d with
 | zero =>
   intro k acc a4 a5 n o;have i : k = 1024:=(by omega);subst i;rw [xl zbb rfl,zcx];simp -implicitDefEqProofs only [go_sem,ym,zbe]
 | succ d ih =>
   intro k acc a4 a5 n o;have i : ((k : Int) < 1024) = True:=(by simp; omega);have l:=zBl (W:=W) (j:=k) (by omega);have hw : Go.IntKind.i64.wrap ((k : Int) + 1) = ((k + 1 : Nat) : Int):=(by rw [wrap_i64] <;> omega);rw [xl zbb rfl,zcx,zbe]
   by_cases c : W.getD k 0 = 0
   ·have:=ih (k + 1) acc vU vU (by omega) (by omega)
    simp -implicitDefEqProofs only [go_sem,obW] at this a;simp -implicitDefEqProofs only [go_sem,obW,i,a,l,c,yu,ye,yl,hw,Ok.up m,b,this]
   ·have e : acc ++ ((k : Int),W.getD k 0) :: zbe W d (k + 1) = (acc ++ [((k : Int),W.getD k 0)]) ++ zbe W d (k + 1):=by simp
    have h : acc.length + 1 ≤ LIM:=(by unfold LIM; omega);have:=ih (k + 1) (acc ++ [((k : Int),W.getD k 0)]) vU vU (by simp; omega) (by omega);rw [← e] at this;rw [← zwk] at this;simp -implicitDefEqProofs only [go_sem,obW] at this a;simp -implicitDefEqProofs only [go_sem,obW,i,a,l,c,yu,ye,yl,zv,h,hw,Ok.up m,b,this]
theorem zDY (W : List Int) (e : W.length = 1025) (σ : zd) (id : Nat) (b : σ[id]? = some (obW W)) (c : Ok σ) : call T 142 [.one (.ptr id 0 0 0)] σ = some (fF (zbe W 1024 0) (W.getD 1024 0),σ):=by
 rw [ze (fn:=zdj) rfl];have a:=zdm b;have d:=zBl (W:=W) (j:=1024) (by omega);have h:=fun a4 a5 => zHz W e σ id b c (W.getD 1024 0) 1024 0 [] a4 a5 (by simp) (by omega);simp only [yN,yt,zl] at h;simp -implicitDefEqProofs only [go_sem,obW] at h a;simp -implicitDefEqProofs only [go_sem,zdj,obW,a,d,h,fF,Ok.at c]
theorem zuq : ∀ (a : List (Int × Int)) (W : List Int) (last : Int),zg last a = true → 0 ≤ last → ∀ v : Nat,(v : Nat) < W.length → (zEU a W).getD v 0 = if (last < v ∧ cf a v ≠ 0) then cf a v else W.getD v 0
 | [],W,_,_,_,v,_ => by simp [zEU,cf]
 | t :: r,W,last,hm,h0,v,hv => by
   rw [zaX] at hm;obtain ⟨m1,m2,j,d⟩:=hm;rw [zEU,zuq r _ t.1 d (by omega) v (by simpa using hv)]
   by_cases e : t.1 = v
   ·have g : cf (t :: r) (v : Int) = t.2:=by simp only [cf]; rw [if_pos e]
    have k : cf r v = 0:=zmO r d (by omega);simp only [g,k,ne_eq,not_true_eq_false,and_false,if_false];rw [if_pos ⟨by omega,j⟩];have : t.1.toNat = v:=(by omega);rw [this];simp [hv]
   ·have g : cf (t :: r) (v : Int) = cf r v:=by simp only [cf]; rw [if_neg e]
    simp only [g];have b : t.1.toNat ≠ v:=(by omega);have i : (W.set t.1.toNat t.2).getD v 0 = W.getD v 0:=(by simp [yi b]);rw [i]
    by_cases c : cf r v = 0
    ·simp only [c,ne_eq,not_true_eq_false,and_false,if_false]
    ·have f : t.1 < v:=by
      by_cases h : (v : Int) ≤ t.1
      ·exact absurd (zmO r d h) c
      ·omega
     rw [if_pos ⟨f,c⟩,if_pos ⟨by omega,c⟩]
theorem zKU {a : List (Int × Int)} (hm : zg 0 a = true) {v : Int} (h : cf a v ≠ 0) : 0 < v:=by
 by_cases c : v ≤ 0
 ·exact absurd (zmO a hm c) h
 ·omega
theorem zqs (a : List (Int × Int)) (off : Int) (hm : zg 0 a = true) (v : Nat) (d : v < 1024) : (zhw a off).getD v 0 = cf a v:=by
 have b : (W0 off).getD v 0 = 0:=by
  rw [W0,yd,yi (by omega),yC,if_pos (by omega)];rfl
 rw [zhw,zuq a _ 0 hm (yv 0) v (by rw [zoQ]; omega),b]
 by_cases c : cf a v = 0
 ·rw [if_neg (by simp [c]),c]
 ·rw [if_pos ⟨zKU hm c,c⟩]
theorem zuR {a : List (Int × Int)} : ∀ {last : Int},zg last a = true → ∀ {v : Int},1023 < v → cf a v = 0:=by
 induction a with
 | nil => intro _ _ v _; rfl
 | cons t r ih =>
   intro last hm v b;rw [zaX] at hm;simp only [cf];rw [if_neg (by omega)];exact ih hm.2.2.2 b
theorem zzu (a : List (Int × Int)) (off : Int) (hm : zg 0 a = true) : (zhw a off).getD 1024 0 = off:=by
 rw [zhw,zuq a _ 0 hm (yv 0) 1024 (by rw [zoQ]; omega),if_neg (by rw [zuR hm (by decide)]; simp)];rw [W0,yd,List.getElem?_set_self (by rw [yg]; omega)];rfl
theorem ziW (W : List Int) : ∀ (d k : Nat) (last : Int),d + k ≤ 1024 → last < (k : Int) → zg last (zbe W d k) = true
 | 0,_,_,_,_ => rfl
 | d + 1,k,last,h1,h2 => by
   rw [zbe];split
   ·exact ziW W d (k + 1) last (by omega) (by omega)
   ·rename_i a
    rw [zaX];exact ⟨h2,by simp only; omega,a,ziW W d (k + 1) _ (by omega) (by simp only; omega)⟩
theorem zuc (W : List Int) : ∀ (d k : Nat) (v : Nat),cf (zbe W d k) v = if k ≤ v ∧ v < k + d then W.getD v 0 else 0
 | 0,k,v => by rw [zbe,if_neg (by omega)]; rfl
 | d + 1,k,v => by
   rw [zbe];split
   ·rename_i a
    rw [zuc W d (k + 1) v]
    by_cases e : k = v
    ·subst e
     rw [if_neg (by omega),if_pos (by omega),a]
    ·by_cases c : k + 1 ≤ v ∧ v < k + 1 + d
     ·rw [if_pos c,if_pos (by omega)]
     ·rw [if_neg c,if_neg (by omega)]
   ·simp only [cf]
    by_cases e : k = v
    ·subst e
     rw [if_pos rfl,if_pos (by omega)]
    ·rw [if_neg (by omega),zuc W d (k + 1) v]
     by_cases c : k + 1 ≤ v ∧ v < k + 1 + d
     ·rw [if_pos c,if_pos (by omega)]
     ·rw [if_neg c,if_neg (by omega)]
end AC
namespace AC
open Go Go.A
set_option maxRecDepth 100000
end AC
namespace AC
open Go Go.A Go.A.Lex
theorem zsn {α : Type} {l : List α} {i : Nat} (v d : α) (h : i < l.length) : (l.set i v).getD i d = v:=by simp [h]
def zr3 (ts us : List (Int × Int)) (off off' n m : Int) : List Int:=ziM n m (zhw us off') 1024 0 (zhw ts off)
theorem ziz (b us : List (Int × Int)) (off a n m : Int) : (zr3 b us off a n m).length = 1025:=by rw [zr3,zmU,zea]
theorem zJe (b us : List (Int × Int)) (off a : Int) (W B : List Int) : Ok [bx b off,bx us a,zz2,bx b off,obW W,bx us a,obW B]:=by
 have h : ∀ (n : Nat) (W : List Int),C.lts n (W.map cU) = true:=fun n W => by
  induction W with
  | nil => simp only [yO,C.lts]
  | cons x r ih => simp only [yH,C.lts,cU,C.lt,ih,yL]
 unfold Ok;simp -implicitDefEqProofs only [go_sem,bx,obW,h]
theorem zrM (n : Nat) : ∀ W : List Int,C.shifts n (W.map cU) = W.map cU
 | [] => by simp only [yO,C.shifts]
 | x :: r => by simp only [yH,C.shifts,cU,C.shift,zrM n r]
theorem zu7 (b us : List (Int × Int)) (off a n m : Int) (s : b.length ≤ 4294967296) (g : us.length ≤ 4294967296) (r : zg 0 b = true) (l : zg 0 us = true) :
  call T 94 [fF b off,zf4 n,fF us a,zf4 m] [] = some (fF (zbe (zr3 b us off a n m) 1024 0) (comb n m off a),[]):=by
 rw [ze (fn:=zf9) rfl];have o:=zzN b off s r;have i:=zzN us a g l;have e:=fun a0 a2 a4 a5 f => zJv n m (bx b off) (bx us a) (bx b off) (bx us a) (fun k => rfl) (zhw us a) (zea _ _) 1024 0 (zhw b off) a0 a2 a4 a5 f (zea _ _) (by omega);simp only [yt] at e;have q:=zBl (W:=zr3 b us off a n m) (j:=1024) (by rw [ziz]; omega);have p:=zBl (W:=zhw us a) (j:=1024) (by rw [zea]; omega)
 have e1 : (zr3 b us off a n m).getD 1024 0 = off:=by
  rw [zr3,zkM _ _ _ _ _ _ _ (by rw [zea]; omega),if_neg (by omega),zzu b off r]
 rw [e1] at q;rw [zzu us a l] at p;have h:=zKz (W:=zr3 b us off a n m) (j:=1024) (comb n m off a) (by rw [ziz]; omega);have hle:=zsK (show 1024 < (zr3 b us off a n m).length by rw [ziz]; omega);have c:=zDY ((zr3 b us off a n m).set 1024 (comb n m off a)) (by rw [ya,ziz]) [bx b off,bx us a,zz2,bx b off,obW ((zr3 b us off a n m).set 1024 (comb n m off a)),bx us a,obW (zhw us a)] 4 (by simp only [List.getElem?_cons_succ,List.getElem?_cons_zero]) (zJe _ _ _ _ _ _);have e2 : ((zr3 b us off a n m).set 1024 (comb n m off a)).getD 1024 0 = comb n m off a:=zsn _ _ (by rw [ziz]; omega)
 have e3 : ∀ (d k : Nat),d + k ≤ 1024 → zbe ((zr3 b us off a n m).set 1024 (comb n m off a)) d k = zbe (zr3 b us off a n m) d k:=by
  intro d
  induction d with
  | zero => intro k _; simp only [zbe]
  | succ d ih =>
    intro k t
    have : ((zr3 b us off a n m).set 1024 (comb n m off a)).getD k 0 = (zr3 b us off a n m).getD k 0:=by
     rw [yd,yi (by omega),← yd]
    rw [zbe,zbe,this,ih (k + 1) (by omega)]
 rw [e2,e3 1024 0 (by omega)] at c;unfold comb at h c ⊢;have em : ziM n m (zhw us a) 1024 0 (zhw b off) = zr3 b us off a n m:=rfl;rw [em] at e;simp -implicitDefEqProofs only [go_sem,obW,bx,fF,ztp,zrM] at o i e h c;simp -implicitDefEqProofs only [go_sem,zf9,obW,bx,fF,ztp,zrM,o,i,e,q,p,h,hle,c]
theorem zq2 (op : Int → Int → Int) (n m : Int) (f us : List (Int × Int)) (off d : Int) (j : zg 0 f = true) (i : zg 0 us = true) (o : ∀ v,op (cf f v) (cf us v) = comb n m (cf f v) (cf us v)) (q : op 0 0 = 0) :
  zbe (zr3 f us off d n m) 1024 0 = zaL op f us:=by
 refine zy5 _ _ (a:=0) (b:=0) ?_ (zb1 op f us 0 j i) fun v => ?_
 ·have:=ziW (zr3 f us off d n m) 1024 0 (-1) (by omega) (by omega)
  have w : ∀ (l : List (Int × Int)),zg (-1) l = true → cf l 0 = 0 → zg 0 l = true:=by
   intro l s g
   cases l with
   | nil => rfl
   | cons t r =>
     rw [zaX] at s ⊢;refine ⟨?_,s.2⟩
     by_cases e : t.1 = 0
     ·simp only [cf] at g
      rw [if_pos e] at g;exact absurd g s.2.2.1
     ·omega
  refine w _ this ?_;have g:=zuc (zr3 f us off d n m) 1024 0 0;rw [if_pos (by omega)] at g
  have u : (zr3 f us off d n m).getD 0 0 = comb n m (cf f 0) (cf us 0):=by
   rw [zr3,zkM _ _ _ _ _ _ _ (by rw [zea]; omega),if_pos (by omega),zqs f off j 0 (by omega),zqs us d i 0 (by omega)];rfl
  rw [u] at g;have c1 : cf f 0 = 0:=zmO f j (yv 0);have c2 : cf us 0 = 0:=zmO us i (yv 0);have h:=o 0;rw [c1,c2,q] at h;rw [c1,c2,← h] at g;exact g
 ·rw [zh1 op q v f us 0 j i,o v]
  by_cases x : 0 ≤ v ∧ v < 1024
  ·obtain ⟨k,rfl⟩ : ∃ k : Nat,v = k:=⟨v.toNat,by omega⟩
   rw [zuc,if_pos (by omega),zr3,zkM _ _ _ _ _ _ _ (by rw [zea]; omega),if_pos (by omega),zqs f off j k (by omega),zqs us d i k (by omega)]
  ·have p : cf f v = 0 ∧ cf us v = 0:=by
    by_cases c : v ≤ 0
    ·exact ⟨zmO f j c,zmO us i c⟩
    ·exact ⟨zuR j (by omega),zuR i (by omega)⟩
   have h:=o v;rw [p.1,p.2,q] at h;rw [p.1,p.2,← h];have hm:=ziW (zr3 f us off d n m) 1024 0 (-1) (by omega) (by omega)
   by_cases c : v ≤ -1
   ·exact zmO _ hm c
   ·exact zuR hm (by omega)
theorem zHr (a b : Int) : pl a b = comb 1 1 a b:=by
 simp only [pl,comb,zls,yP];rw [← yM]
theorem zG9 (a b : Int) : mi a b = comb 1 18446744073709551615 a b:=by
 simp only [mi,comb,zls,yP];rw [← yM];have : a + b * 18446744073709551615 = (a - b) + b * 18446744073709551616:=by omega
 rw [this,Int.add_mul_emod_self_right]
theorem zHb (n a : Int) : ti n a 0 = comb n 0 a 0:=by
 simp only [ti,comb,zls,Int.zero_mul];rw [← yM,Int.add_zero]
theorem zJV {b us : List (Int × Int)} (off a : Int) (d : zg 0 b = true) (e : zg 0 us = true) (f : b.length ≤ 4294967296) (c : us.length ≤ 4294967296) :
  call T 94 [fF b off,zf4 1,fF us a,zf4 1] [] = some (fF (zaL pl b us) (pl off a),[]):=by
 rw [zu7 b us off a 1 1 f c d e,zq2 pl 1 1 b us off a d e (fun v => zHr _ _) rfl,← zHr]
theorem zHg {b us : List (Int × Int)} (off a : Int) (d : zg 0 b = true) (e : zg 0 us = true) (f : b.length ≤ 4294967296) (c : us.length ≤ 4294967296) :
  call T 94 [fF b off,zf4 1,fF us a,zf4 18446744073709551615] [] = some (fF (zaL mi b us) (mi off a),[]):=by
 rw [zu7 b us off a 1 18446744073709551615 f c d e,zq2 mi 1 18446744073709551615 b us off a d e (fun v => zG9 _ _) rfl,← zG9]
theorem zJi {a : List (Int × Int)} (off n : Int) (b : zg 0 a = true) (c : a.length ≤ 4294967296) :
  call T 94 [fF a off,zf4 n,fF [] 0,zf4 0] [] = some (fF (zaL (ti n) a []) (ti n off 0),[]):=by
 rw [zu7 a [] off 0 n 0 c (by simp) b rfl,zq2 (ti n) n 0 a [] off 0 b rfl (fun v => by rw [show cf [] v = 0 from rfl]; exact zHb n _) (zDZ n),← zHb]
def zBc (o : POp) : List C:=cOp o
def cfB (b : Bool) : List C:=[.f (.lit (.bool b))]
def cfF (x : zQ) : List C:=[.f (.sl (rows x.1)),.f (.lit (.int .u64 x.2))]
def FC (O : List POp) (B : List Bool) (M : List zQ) : List C:=O.flatMap zBc ++ (B.flatMap cfB ++ M.flatMap cfF)
theorem zhj {α : Type} (f : α → List C) (n : Nat) (h : ∀ a,(f a).length = n) : ∀ l : List α,(l.flatMap f).length = l.length * n
 | [] => by simp
 | a :: l => by rw [yp,yn,h,zhj f n h l,yy,Nat.succ_mul]; omega
theorem zxs {α : Type} (f : α → List C) (l : List α) (k : Nat) (h : k < l.length) : l.flatMap f = (l.take k).flatMap f ++ (f l[k] ++ (l.drop (k + 1)).flatMap f):=by
 conv => lhs; rw [← List.take_append_drop k l,yf h,yJ,yp]
theorem zus {α : Type} (f : α → List C) (l : List α) (k : Nat) (h : k < l.length) (a : α) : (l.set k a).flatMap f = (l.take k).flatMap f ++ (f a ++ (l.drop (k + 1)).flatMap f):=by
 rw [List.set_eq_take_append_cons_drop,if_pos h,yJ,yp]
theorem zBC {L P X S : List C} {n m : Nat} (e : L = P ++ (X ++ S)) (a : P.length = n) (b : X.length = m) : (n + m ≤ L.length) = True ∧ (L.drop n).take m = X ∧ (∀ Y,L.take n ++ (Y ++ L.drop (n + m)) = P ++ (Y ++ S)) ∧ L[n]? = (X ++ S)[0]?:=by
 subst e a b;refine ⟨by simp,by simp,fun Y => ?_,?_⟩
 ·rw [List.take_left',List.drop_append,List.drop_of_length_le (by omega),Nat.add_sub_cancel_left,List.drop_left',yN] <;> rfl
 ·rw [List.getElem?_append_right (by omega),Nat.sub_self]
abbrev zop : POp:=⟨0,0,0,0,[],0⟩
section
variable {O : List POp} {B : List Bool} {M : List zQ} (lo : O.length = 1024) (lb : B.length = 1024) (lm : M.length = 1024)
include lo lb lm
theorem zJW : (FC O B M).length = 9216:=by
 unfold FC;rw [yn,yn,zhj zBc 6 (fun _ => rfl),zhj cfB 1 (fun _ => rfl),zhj cfF 2 (fun _ => rfl),lo,lb,lm]
theorem zIi {k : Nat} (a : k < 1024) : (k * 6 + 6 ≤ (FC O B M).length) = True ∧ ((FC O B M).drop (k * 6)).take 6 = cOp (O.getD k zop) ∧ ∀ o,(FC O B M).take (k * 6) ++ (cOp o ++ (FC O B M).drop (k * 6 + 6)) = FC (O.set k o) B M:=by
 have h:=zBC (n:=k * 6) (m:=6) (L:=FC O B M) (P:=(O.take k).flatMap zBc) (X:=zBc (O[k]'(by omega))) (S:=(O.drop (k + 1)).flatMap zBc ++ (B.flatMap cfB ++ M.flatMap cfF)) (by
  unfold FC;rw [zxs zBc O k (by omega)]
  simp only [yh]) (by rw [zhj zBc 6 (fun _ => rfl),yF]; omega) rfl
 refine ⟨h.1,?_,fun o => ?_⟩
 ·rw [h.2.1,show O.getD k zop = O[k]'(by omega) by simp [show k < O.length by omega]]
  rfl
 ·rw [h.2.2.1]
  unfold FC;rw [zus zBc O k (by omega)];simp only [yh];rfl
theorem zLi {k : Nat} (a : k < 1024) : (6144 + k + 1 ≤ (FC O B M).length) = True ∧ (FC O B M)[6144 + k]? = some (.f (.lit (.bool (B.getD k false)))) ∧ ∀ b,(FC O B M).take (6144 + k) ++ (.f (.lit (.bool b)) :: (FC O B M).drop (6144 + k + 1)) = FC O (B.set k b) M:=by
 have h:=zBC (n:=6144 + k) (m:=1) (L:=FC O B M) (P:=O.flatMap zBc ++ (B.take k).flatMap cfB) (X:=cfB (B[k]'(by omega))) (S:=(B.drop (k + 1)).flatMap cfB ++ M.flatMap cfF) (by
  unfold FC;rw [zxs cfB B k (by omega)]
  simp only [yh]) (by rw [yn,zhj zBc 6 (fun _ => rfl),zhj cfB 1 (fun _ => rfl),yF]; omega) rfl
 refine ⟨h.1,?_,fun b => ?_⟩
 ·rw [h.2.2.2,show B.getD k false = B[k]'(by omega) by simp [show k < B.length by omega]]
  rfl
 ·have:=h.2.2.1 (cfB b)
  rw [show ∀ r : List C,C.f (.lit (.bool b)) :: r = cfB b ++ r from fun _ => rfl,this];unfold FC;rw [zus cfB B k (by omega)];simp only [yh]
theorem zKE {k : Nat} (a : k < 1024) : (7168 + k * 2 + 2 ≤ (FC O B M).length) = True ∧ ((FC O B M).drop (7168 + k * 2)).take 2 = cfF (M.getD k zlL) ∧ ∀ x,(FC O B M).take (7168 + k * 2) ++ (cfF x ++ (FC O B M).drop (7168 + k * 2 + 2)) = FC O B (M.set k x):=by
 have h:=zBC (n:=7168 + k * 2) (m:=2) (L:=FC O B M) (P:=O.flatMap zBc ++ (B.flatMap cfB ++ (M.take k).flatMap cfF)) (X:=cfF (M[k]'(by omega))) (S:=(M.drop (k + 1)).flatMap cfF) (by
  unfold FC;rw [zxs cfF M k (by omega)]
  simp only [yh]) (by rw [yn,yn,zhj zBc 6 (fun _ => rfl),zhj cfB 1 (fun _ => rfl),zhj cfF 2 (fun _ => rfl),yF]; omega) rfl
 refine ⟨h.1,?_,fun x => ?_⟩
 ·rw [h.2.1,show M.getD k zlL = M[k]'(by omega) by simp [show k < M.length by omega]]
 ·rw [h.2.2.1]
  unfold FC;rw [zus cfF M k (by omega)];simp only [yh]
end
theorem zCq {P : List C → Prop} (g : P []) (d : ∀ x r,P r → P (.f x :: r)) (O : List POp) (B : List Bool) (M : List zQ) : P (FC O B M):=by
 have a : ∀ r,P r → P (M.flatMap cfF ++ r):=fun r e => by
  induction M with
  | nil => exact e
  | cons x l ih => rw [yp,yh]; exact d _ _ (d _ _ ih)
 have b : ∀ r,P r → P (B.flatMap cfB ++ r):=fun r e => by
  induction B with
  | nil => exact e
  | cons x l ih => rw [yp,yh]; exact d _ _ ih
 have c : ∀ r,P r → P (O.flatMap zBc ++ r):=fun r e => by
  induction O with
  | nil => exact e
  | cons x l ih => rw [yp,yh]; exact d _ _ (d _ _ (d _ _ (d _ _ (d _ _ (d _ _ ih)))))
 have:=c _ (b _ (a _ g));rw [List.append_nil] at this;exact this
theorem zlZ (n : Nat) (O : List POp) (B : List Bool) (M : List zQ) : C.lts n (FC O B M) = true:=zCq (P:=fun l => C.lts n l = true) (by simp only [C.lts]) (fun x r h => by simp only [C.lts,C.lt,h,yL]) O B M
theorem zKd (O : List POp) (B : List Bool) (M : List zQ) : C.kns (FC O B M) = true:=zCq (P:=fun l => C.kns l = true) (by simp only [C.kns]) (fun x r h => by simp only [C.kns,h]) O B M
theorem zww (n : Nat) (O : List POp) (B : List Bool) (M : List zQ) : C.shifts n (FC O B M) = FC O B M:=zCq (P:=fun l => C.shifts n l = l) (by simp only [C.shifts]) (fun x r h => by simp only [C.shifts,C.shift,h]) O B M
abbrev fob (O : List POp) (B : List Bool) (M : List zQ) : Ob:=.cells 0 9216 [FC O B M]
structure Fnd (σ : zd) (x : Nat) (O : List POp) (B : List Bool) (M : List zQ) : Prop where
 hx : σ[x]? = some (fob O B M)
 ok : Ok σ
 lo : O.length = 1024
 lb : B.length = 1024
 lm : M.length = 1024
theorem zBE (n : Nat) (O : List POp) (B : List Bool) (M : List zQ) : (fob O B M).lt n = true:=by simp only [Ob.lt,C.ltss,zlZ,yL]
theorem Fnd.put {σ : zd} {x : Nat} {O : List POp} {B : List Bool} {M : List zQ} (h : Fnd σ x O B M) {a : List Bool} {b : List zQ} (lb : a.length = 1024) (lm : b.length = 1024) : Fnd (σ.set x (fob O a b)) x O a b:=by
 have c : x < σ.length:=(yA.1 h.hx).1;refine ⟨by simp [c],?_,h.lo,lb,lm⟩;unfold Ok;rw [ya];exact zmA _ _ _ (zBE _ _ _ _) _ h.ok
theorem Fnd.app {σ : zd} {x : Nat} {O : List POp} {B : List Bool} {M : List zQ} (h : Fnd σ x O B M) (r : zd) (a : Obs.lt (σ.length + r.length) r = true) : Fnd (σ ++ r) x O B M:=⟨zdm h.hx r,h.ok.app a,h.lo,h.lb,h.lm⟩
def zsI (g : Int → zQ) (B : List Bool) (M : List zQ) : Prop:=∀ k : Nat,k < 1024 → B.getD k false = true → M.getD k zlL = g k
theorem zsI.set {g : Int → zQ} {B : List Bool} {M : List zQ} (h : zsI g B M) (lb : B.length = 1024) (lm : M.length = 1024) {k : Nat} (b : k < 1024) : zsI g (B.set k true) (M.set k (g k)):=fun j a e => by
 by_cases c : j = k
 ·subst c; simp [lm,b]
 ·have n : k ≠ j:=fun e => c e.symm
  simp only [yd,yi n] at e ⊢;have:=h j a;simp only [yd] at this;exact this e
def zHu (O : List POp) (D : ziS) : Prop:=∀ k : Nat,0 < k → k < 1024 → O.getD k zop = (getM (k : Int) D).getD zop
def zLF (O : List POp) (g : Int → zQ) (rk : Int → Nat) (n : Nat) : Prop:=∀ (σ : zd) (x : Nat) (B : List Bool) (M : List zQ) (v : Int),Fnd σ x O B M → zsI g B M → 0 < v → v < 1024 → rk v < n →
 ∃ B' M',B'.length = 1024 ∧ M'.length = 1024 ∧ zsI g B' M' ∧ call T 87 [.one (.ptr x 0 0 0),vI v] σ = some (vFm (g v),σ.set x (fob O B' M'))
theorem zHJ (a b : zQ) (d : zg 0 a.1 = true) (e : zg 0 b.1 = true) (f : a.1.length ≤ 4294967296) (c : b.1.length ≤ 4294967296) :
  call T 94 [fF a.1 a.2,zf4 1,fF b.1 b.2,zf4 1] [] = some (fF (zlB a b).1 (zlB a b).2,[]):=by
 rw [zJV a.2 b.2 d e f c,zlB,if_pos ⟨d,e⟩]
theorem zHD (a b : zQ) (d : zg 0 a.1 = true) (e : zg 0 b.1 = true) (f : a.1.length ≤ 4294967296) (c : b.1.length ≤ 4294967296) :
  call T 94 [fF a.1 a.2,zf4 1,fF b.1 b.2,zf4 18446744073709551615] [] = some (fF (zil a b).1 (zil a b).2,[]):=by
 rw [zHg a.2 b.2 d e f c,zil,if_pos ⟨d,e⟩]
theorem zyt (a : zQ) (n : Int) (b : zg 0 a.1 = true) (c : a.1.length ≤ 4294967296) :
  call T 94 [fF a.1 a.2,zf4 n,fF [] 0,zf4 0] [] = some (fF (zfV a n).1 (zfV a n).2,[]):=by
 rw [zJi a.2 n b c,zfV,if_pos b]
set_option maxHeartbeats 2000000 in
theorem zFH {O : List POp} {D : ziS} {j : Int → Nat} (K : Ranked D j) (n : Nat) (hC : zLF O (val D j) j n) (σ : zd) (x : Nat) (B : List Bool) (M : List zQ) (h : Fnd σ x O B M) (hM : zsI (val D j) B M)
  (kd bits i dst a b : Int) (rest : List Int) (y : Int) (own : zQ) (k0 : kd = 1 ∨ kd = 2 ∨ kd = 3 ∨ kd = 8) (a0 : 0 < a) (a1 : a < 1024) (ra : j a < n) (b0 : 0 < b) (b1 : b < 1024) (aA : j b < n) :
  ∃ B' M',B'.length = 1024 ∧ M'.length = 1024 ∧ zsI (val D j) B' M' ∧ call T 140 [.one (.ptr x 0 0 0),vOp ⟨kd,bits,i,dst,a :: b :: rest,y⟩,vFm own] σ =
    some (vFm ((tell kd (val D j a) (val D j b)).getD own),σ.set x (fob O B' M')):=by
 rw [ze (fn:=zm) rfl];have r1:=h.app [Ob.cells 0 6 [cOp ⟨kd,bits,i,dst,a :: b :: rest,y⟩],.cells 0 2 [[.f (.sl (rows own.1)),.f (.lit (.int .u64 own.2))]],.cells 0 2 [[.f (.sl []),.f (.lit (.int .u64 0))]]] (by simp -implicitDefEqProofs only [go_sem]);obtain ⟨B1,M1,z,P,aE,g1⟩:=hC _ x _ _ a r1 hM a0 a1 ra;rw [zku h.hx] at g1;have I:=h.put z P;have r2:=I.app [Ob.cells 0 6 [cOp ⟨kd,bits,i,dst,a :: b :: rest,y⟩],.cells 0 2 [[.f (.sl (rows own.1)),.f (.lit (.int .u64 own.2))]],.cells 0 2 [[.f (.sl []),.f (.lit (.int .u64 0))]],.cells 0 2 [[.f (.sl (rows (val D j a).1)),.f (.lit (.int .u64 (val D j a).2))]]] (by simp -implicitDefEqProofs only [go_sem]);obtain ⟨B2,S,m,G,W,J⟩:=hC _ x _ _ b r2 aE b0 b1 aA;rw [zku I.hx] at J;have h2:=I.put m G;rw [yQ] at J h2;refine ⟨B2,S,m,G,W,?_⟩;have oa:=zp8 K a;have ob:=zp8 K b;have L:=zup K a0 a1;have V:=zup K b0 b1;generalize val D j a = fa at *;generalize val D j b = fb at *;have g : (σ.set x (fob O B1 M1)).length = σ.length:=ya;have c : (σ.set x (fob O B2 S)).length = σ.length:=ya;generalize σ.set x (fob O B1 M1) = σ1 at *;generalize σ.set x (fob O B2 S) = σ2 at *;have ok:=fun k => Ok.up h.ok k;have Y:=Ok.at h.ok;have Z:=fun (o : Ob) r => zhD g o r;have X:=fun (o p : Ob) r => zis g o p r;have aB:=fun (o p q : Ob) r => ziL g o p q r;have Q:=fun (o p q s : Ob) r => ziv g o p q s r;have aF:=fun (x o p q s : Ob) r => zjP g x o p q s r;have aD:=fun (o : Ob) r => zhD c o r;have z:=fun (o p : Ob) r => zis c o p r;have m:=fun (o p q : Ob) r => ziL c o p q r;have aC:=fun (o p q s : Ob) r => ziv c o p q s r;have aG:=fun (o p q s t : Ob) r => zEG c o p q s t r;have U:=fun (x o p q : Ob) r => zk8 c x o p q r;have aI:=fun (x o p q s : Ob) r => zjP c x o p q s r;have aH:=fun (x o p q s t : Ob) r => zCb c x o p q s t r;have tb:=fun (r : zd) => zij c r;have C:=fun k => Ok.up h2.ok k;have v:=Ok.at h2.ok;have E:=fun k => Ok.up I.ok k;have u:=Ok.at I.ok;simp only [g,c] at C v E u;simp -implicitDefEqProofs only [go_sem,vFm,fF,ri] at g1 J;have N : fa.1.length ≤ 4294967296:=by have:=oa.1; omega
 have R : fb.1.length ≤ 4294967296:=by have:=ob.1; omega
 have H:=yb ok <| yb Y <| yb g <| yb c <| yb g1 <| yb J <| yb Z <| yb X <| yb aB <| yb Q <| yb aF <| yb aD <| yb z <| yb m <| yb aC <| yb aG <| yb U <| yb aI <| yb aH <| yb tb <| yb E <| yb C <| yb u v;rcases k0 with rfl | rfl | rfl | rfl
 ·have e : tell 1 fa fb = some (zlB fa fb):=by simp [tell]
  have p1:=zHJ fa fb L V N R;simp -implicitDefEqProofs only [go_sem,fF] at p1;simp -implicitDefEqProofs only [go_sem,zm,H,vFm,fF,ri,zv,zl,e,zay,n21,yq,p1]
 ·have e : tell 2 fa fb = some (zil fa fb):=by simp [tell]
  have p1:=zHD fa fb L V N R;simp -implicitDefEqProofs only [go_sem,fF] at p1;simp -implicitDefEqProofs only [go_sem,zm,H,vFm,fF,ri,zv,zl,e,zay,n21,yq,p1]
 ·by_cases l : (fb.1.length : Int) = 0
  ·have d : fb.1 = []:=yr (by omega)
   have e : tell 3 fa fb = some (zfV fa fb.2):=(by simp [tell,d]);have p1:=zyt fa fb.2 L N;simp -implicitDefEqProofs only [go_sem,fF,zl] at p1;simp -implicitDefEqProofs only [go_sem,zm,H,vFm,fF,ri,zv,zl,e,zay,n21,yq,p1,l]
  ·have d : ¬ fb.1 = []:=fun h => l (by rw [h]; rfl)
   by_cases w : (fa.1.length : Int) = 0
   ·have A : fa.1 = []:=yr (by omega)
    have e : tell 3 fa fb = some (zfV fb fa.2):=(by simp [tell,d,A]);have p1:=zyt fb fa.2 V R;simp -implicitDefEqProofs only [go_sem,fF,zl] at p1;simp -implicitDefEqProofs only [go_sem,zm,H,vFm,fF,ri,zv,zl,e,zay,n21,yq,p1,l,w]
   ·have A : ¬ fa.1 = []:=fun h => w (by rw [h]; rfl)
    have e : tell 3 fa fb = none:=(by simp [tell,d,A]);simp -implicitDefEqProofs only [go_sem,zm,H,vFm,fF,ri,zv,zl,e,zay,n21,yD,l,w]
 ·by_cases l : (fb.1.length : Int) = 0
  ·have d : fb.1 = []:=yr (by omega)
   by_cases w : fb.2 < 64
   ·have e : tell 8 fa fb = some (zfV fa (IntKind.u64.wrap (1 * 2 ^ min fb.2.toNat 64))):=by simp [tell,d,w]
    have p1:=zyt fa (IntKind.u64.wrap (1 * 2 ^ min fb.2.toNat 64)) L N;simp -implicitDefEqProofs only [go_sem,fF,zl] at p1;simp -implicitDefEqProofs only [go_sem,zm,H,vFm,fF,ri,zv,zl,e,zay,n21,yq,p1,l,w,eq_true ob.2]
   ·have e : tell 8 fa fb = none:=by simp [tell,d,w]
    simp -implicitDefEqProofs only [go_sem,zm,H,vFm,fF,ri,zv,zl,e,zay,n21,yD,l,w]
  ·have d : ¬ fb.1 = []:=fun h => l (by rw [h]; rfl)
   have e : tell 8 fa fb = none:=(by simp [tell,d]);simp -implicitDefEqProofs only [go_sem,zm,H,vFm,fF,ri,zv,zl,e,zay,n21,yD,l]
theorem zKI : (((1 : Nat) : Int) ≤ 16) = True:=by simp
theorem zng (a b : Int) : Fz.beqs [[.lit (.int .i64 a),.lit (.int .u64 b)]] [[.lit (.int .i64 a),.lit (.int .u64 b)]] = true:=by simp [Fz.beqs,Fz.beqR,Fz.beq,Value.beq]
set_option maxHeartbeats 2000000 in
theorem zzx {O : List POp} {D : ziS} {A : Int → Nat} (R : Ranked D A) (hO : zHu O D) : ∀ n : Nat,zLF O (val D A) A n
 | 0,_,_,_,_,_,_,_,_,_,h => absurd h (by omega)
 | n + 1,σ,x,B,M,v,h,hM,v0,v1,hv => by
   obtain ⟨k,rfl⟩:=Int.eq_ofNat_of_zero_le (show 0 ≤ v by omega);have k0 : 0 < k:=(by omega);have z : k < 1024:=(by omega);have p0 : (0 ≤ (k : Int)) = True:=(by simp);have p1 : ((k : Int) < 1024) = True:=(by simp; omega);have hx:=h.hx;have gx:=fun r => zdm hx r;have lx:=fun j => zgU hx j;have S:=zgS hx;have ok:=fun k => Ok.up h.ok k;have L:=Ok.at h.ok;have V : x < σ.length:=(yA.1 hx).1;have U : ∀ (g : Ob) r,(σ ++ r).set x g = σ.set x g ++ r:=fun g r => zku hx g r;have aE : ∀ (g J : Ob) r,(σ.set x g ++ r).set x J = σ.set x J ++ r:=fun g J r => by rw [zku (o0:=g) (by simp [V]),yQ]
   have aN : ∀ (g : Ob) r,(σ.set x g ++ r)[x]? = some g:=fun g r => zdm (by simp [V]) r;have u : ∀ g : Ob,(σ.set x g).length = σ.length:=fun _ => ya;have Y:=fun (g o : Ob) r => zhD (u g) o r;have aG:=fun (g o p : Ob) r => zis (u g) o p r;have aC:=fun (g o p q : Ob) r => ziL (u g) o p q r;have aI:=fun (g o p q s : Ob) r => ziv (u g) o p q s r;have aK:=fun (g y o : Ob) r => zlQ (u g) y o r;have aA:=fun (g y o p : Ob) r => zoo (u g) y o p r;have aM:=fun (g y o p q : Ob) r => zk8 (u g) y o p q r;have aL:=fun (g y o p q s : Ob) r => zjP (u g) y o p q s r;have Z:=fun (o p q s : Ob) r => ziv (rfl : σ.length = σ.length) o p q s r;have aJ:=fun (y o p q s : Ob) r => zjP (rfl : σ.length = σ.length) y o p q s r;have aD:=fun (o p q : Ob) r => ziL (rfl : σ.length = σ.length) o p q r;have aF:=fun (y o p q : Ob) r => zk8 (rfl : σ.length = σ.length) y o p q r;have ta:=fun (g : Ob) (r : zd) => zij (u g) r;have aH : ∀ (i : List Bool) (l : List zQ) (k : Nat),Obs.lt (σ.length + k) (σ.set x (.cells 0 9216 [FC O i l])) = true:=fun i l k => zmA _ _ _ (zBE _ _ _ _) _ (ok k);have X : ∀ (i : List Bool) (l : List zQ),Obs.lt σ.length (σ.set x (.cells 0 9216 [FC O i l])) = true:=fun i l => zmA _ _ _ (zBE _ _ _ _) _ L;have H:=yb gx <| yb lx <| yb hx <| yb S <| yb ok <| yb L <| yb U <| yb aE <| yb aN <| yb Y <| yb aG <| yb aC <| yb aI <| yb aK <| yb aA <| yb aM <| yb aL <| yb ta <| yb aH <| yb X <| yb p0 <| yb p1 <| yb aD <| yb aF <| yb Z aJ;have f1:=zIi h.lo h.lb h.lm z;have f2:=zLi h.lo h.lb h.lm z;have f3:=zKE h.lo h.lb h.lm z;have m:=f2.2.1;have w2 : ∀ i l,i.length = 1024 → l.length = 1024 → ((6144 + k + 1 ≤ (FC O i l).length) = True ∧ (FC O i l).take (6144 + k) ++ (C.f (.lit (.bool true)) :: (FC O i l).drop (6144 + k + 1)) = FC O (i.set k true) l):=fun i l lb lm => ⟨(zLi h.lo lb lm z).1,(zLi h.lo lb lm z).2.2 true⟩;have N : ∀ i l y,i.length = 1024 → l.length = 1024 → ((7168 + k * 2 + 2 ≤ (FC O i l).length) = True ∧ (FC O i l).take (7168 + k * 2) ++ (C.f (.sl (rows y.1)) :: C.f (.lit (.int .u64 y.2)) :: (FC O i l).drop (7168 + k * 2 + 2)) = FC O i (l.set k y)):=fun i l y lb lm => ⟨(zKE h.lo lb lm z).1,(zKE h.lo lb lm z).2.2 y⟩;have d : ∀ i : List Bool,i.length = 1024 → (i.set k true).length = 1024:=fun i e => by rw [ya,e]
   cases cB : B.getD k false with
   | true =>
     refine ⟨B,M,h.lb,h.lm,hM,?_⟩;have hv:=hM k z cB;have hs:=zqy hx;rw [ze (fn:=zf) rfl];rw [cB] at m;rw [hv] at f3;have f31:=f3.1;have f32:=f3.2.1;simp -implicitDefEqProofs only [go_sem,cfF] at f32 hs;simp -implicitDefEqProofs only [go_sem,zf,gx,lx,hx,S,ok,L,p0,p1,ye,yl,m,f31,f32,hs,vFm,fF,zl]
   | false =>
     rw [cB] at m;have c:=zwm R (k : Int);have Q:=hO k k0 z;have f11:=f1.1;have f12:=f1.2.1;have w:=w2 B M h.lb h.lm;unfold zqo at c
     cases e : getM (k : Int) D with
     | none =>
       rw [e] at Q c;simp only [yD,zKs] at Q c;have hz : ((0 : Int) = (k : Int)) = False:=(by simp; omega);rw [Q] at f12;have t:=N (B.set k true) M ([((k : Int),1)],0) (d _ h.lb) h.lm;refine ⟨B.set k true,M.set k (val D A k),d _ h.lb,by rw [ya,h.lm],hM.set h.lb h.lm z,?_⟩;rw [c,ze (fn:=zf) rfl];simp -implicitDefEqProofs only [go_sem,rows,row] at f12 w t;simp -implicitDefEqProofs only [go_sem,zf,H,ya,ye,yl,m,f11,f12,w,vFm,fF,rows,row,zl,zv,n21,zng,hz,t]
     | some o =>
       rw [e] at Q c;have hd:=R.dst _ _ e;have hi:=R.imm _ _ e;have I:=R.arg _ _ e;obtain ⟨kd,bits,P,dst,args,imm⟩:=o;dsimp only at hd hi I;subst hd;simp only [yq] at Q c;rw [Q] at f12
       by_cases c1 : bits = 64
       rotate_left
       ·simp only [c1,ne_eq,not_false_eq_true,true_or,if_true,zha] at c
        have t:=N (B.set k true) M ([((k : Int),1)],0) (d _ h.lb) h.lm;refine ⟨B.set k true,M.set k (val D A k),d _ h.lb,by rw [ya,h.lm],hM.set h.lb h.lm z,?_⟩;rw [c,ze (fn:=zf) rfl];simp -implicitDefEqProofs only [go_sem,rows,row] at f12 w t;simp -implicitDefEqProofs only [go_sem,zf,H,ya,ye,yl,m,f11,f12,w,vFm,fF,rows,row,zl,zv,n21,zng,c1,t]
       subst c1
       by_cases c2 : P = 1
       rotate_left
       ·simp only [c2,ne_eq,not_false_eq_true,or_true,if_true,zha] at c
        have t:=N (B.set k true) M ([((k : Int),1)],0) (d _ h.lb) h.lm;refine ⟨B.set k true,M.set k (val D A k),d _ h.lb,by rw [ya,h.lm],hM.set h.lb h.lm z,?_⟩;rw [c,ze (fn:=zf) rfl];simp -implicitDefEqProofs only [go_sem,rows,row] at f12 w t;simp -implicitDefEqProofs only [go_sem,zf,H,ya,ye,yl,m,f11,f12,w,vFm,fF,rows,row,zl,zv,n21,zng,c2,t]
       subst c2
       by_cases c3 : kd = 0
       ·subst c3
        simp only [ne_eq,not_true_eq_false,or_self,if_false,if_true,zha,List.length_nil,Nat.not_lt_zero] at c;have t:=N (B.set k true) M ([],imm) (d _ h.lb) h.lm;refine ⟨B.set k true,M.set k (val D A k),d _ h.lb,by rw [ya,h.lm],hM.set h.lb h.lm z,?_⟩;rw [c,ze (fn:=zf) rfl];simp -implicitDefEqProofs only [go_sem,zl] at f12 w t;simp -implicitDefEqProofs only [go_sem,zf,H,ya,ye,yl,m,f11,f12,w,vFm,fF,rows,row,zl,zv,n21,zng,t]
       by_cases c4 : kd = 1 ∨ kd = 2 ∨ kd = 3 ∨ kd = 8
       ·obtain ⟨a,b,rest,rfl,ra,aO,⟨a0,a1⟩,b0,b1⟩:=I (by omega) (by omega)
        have r1:=h.app [Ob.cells 0 2 [[.f (.sl []),.f (.lit (.int .u64 0))]],.cells 0 2 [[.f (.sl (rows [((k : Int),1)])),.f (.lit (.int .u64 0))]],.cells 0 6 [cOp ⟨kd,64,1,k,a :: b :: rest,imm⟩],.cells 0 2 [[.f (.sl (rows [((k : Int),1)])),.f (.lit (.int .u64 0))]]] (by simp -implicitDefEqProofs only [go_sem]);obtain ⟨i,l,E,G,aB,W⟩:=zFH R n (zzx R hO n) _ x B M r1 hM kd 64 1 k a b rest imm ([((k : Int),1)],0) c4 a0 a1 (by omega) b0 b1 (by omega);rw [U] at W;have n1 : ¬ ((64 : Int) ≠ 64 ∨ (1 : Int) ≠ 1):=by simp
        have n2 : ¬ (kd < 1 ∨ 8 < kd):=(by rcases c4 with h | h | h | h <;> rw [h] <;> decide);rw [if_neg n1,if_neg c3,if_neg n2] at c;dsimp only at c;refine ⟨i.set k true,l.set k (val D A k),d _ E,by rw [ya,G],aB.set E G z,?_⟩;have w:=w2 i l E G;rw [ze (fn:=zf) rfl,c];generalize tell kd (val D A a) (val D A b) = q at *
        by_cases c5 : 16 < (q.getD ([((k : Int),1)],0)).1.length
        ·have K : ¬ (((q.getD ([((k : Int),1)],0)).1.length : Int) ≤ 16):=by omega
         have ek : zha k q = ([((k : Int),1)],0):=by
          unfold zha
          cases q with
          | none => rfl
          | some f => simp only [yq] at c5 ⊢; rw [if_pos c5]
         have t:=N (i.set k true) l ([((k : Int),1)],0) (d _ E) G;rw [ek];generalize q.getD ([((k : Int),1)],0) = y at *;simp -implicitDefEqProofs only [go_sem,rows,row,vFm,fF] at f12 w t W;rcases c4 with rfl | rfl | rfl | rfl
         all_goals simp -implicitDefEqProofs only [go_sem,zf,H,ya,ye,yl,m,f11,f12,w,vFm,fF,rows,row,zl,zv,n21,zng,W,K,t]
        ·have K : ((q.getD ([((k : Int),1)],0)).1.length : Int) ≤ 16:=by omega
         have ek : zha k q = q.getD ([((k : Int),1)],0):=by
          unfold zha
          cases q with
          | none => rfl
          | some f => simp only [yq] at c5 ⊢; rw [if_neg c5]
         have t:=N (i.set k true) l (q.getD ([((k : Int),1)],0)) (d _ E) G;rw [ek];generalize q.getD ([((k : Int),1)],0) = y at *;simp -implicitDefEqProofs only [go_sem,rows,row,vFm,fF] at f12 w t W;rcases c4 with rfl | rfl | rfl | rfl
         all_goals simp -implicitDefEqProofs only [go_sem,zf,H,ya,ye,yl,m,f11,f12,w,vFm,fF,rows,row,zl,zv,n21,zng,W,K,t]
       ·have d1 : ¬ kd = 1:=fun e => c4 (.inl e)
        have d2 : ¬ kd = 2:=fun e => c4 (.inr (.inl e));have d3 : ¬ kd = 3:=fun e => c4 (.inr (.inr (.inl e)));have d8 : ¬ kd = 8:=fun e => c4 (.inr (.inr (.inr e)))
        have hq : val D A (k : Int) = ([((k : Int),1)],0):=by
         rw [c];have n1 : ¬ ((64 : Int) ≠ 64 ∨ (1 : Int) ≠ 1):=(by simp);rw [if_neg n1,if_neg c3];split
         ·rfl
         ·split
          ·have ht : ∀ fa fb,tell kd fa fb = none:=fun fa fb => by simp [tell,d1,d2,d3,d8]
           rw [ht];rfl
          ·rfl
        have t:=N (B.set k true) M ([((k : Int),1)],0) (d _ h.lb) h.lm;refine ⟨B.set k true,M.set k (val D A k),d _ h.lb,by rw [ya,h.lm],hM.set h.lb h.lm z,?_⟩;rw [hq,ze (fn:=zf) rfl];simp -implicitDefEqProofs only [go_sem,rows,row] at f12 w t;simp -implicitDefEqProofs only [go_sem,zf,H,ya,ye,yl,m,f11,f12,w,vFm,fF,rows,row,zl,zv,n21,zng,c3,d1,d2,d3,d8,zKI,t]
def zn4 : List POp → List POp → List POp
 | O,[] => O
 | O,o :: l => zn4 (O.set o.dst.toNat o) l
def zfS : List POp → List PBlock → List POp
 | O,[] => O
 | O,b :: l => zfS (zn4 O b.ops) l
theorem zmo : ∀ (l O : List POp),(zn4 O l).length = O.length
 | [],_ => rfl
 | o :: l,O => by rw [zn4,zmo l]; simp
theorem zkl : ∀ (l : List PBlock) (O : List POp),(zfS O l).length = O.length
 | [],_ => rfl
 | b :: l,O => by rw [zfS,zkl l,zmo]
def zE9 (f : PFunc) : Prop:=∀ b ∈ f.blocks,∀ o ∈ b.ops,0 ≤ o.dst ∧ o.dst < 1024
theorem zDw {f : PFunc} {level : Int} (h : RightP f level) : zE9 f:=fun b d o c => by
 have a : zeO o = true:=zeo h.typed d c;unfold zeO at a;simp only [ys] at a;have:=a.2.2.1;split at this
 ·rw [decide_eq_true_eq] at this
  omega
 ·unfold value at this
  simp only [ys,decide_eq_true_eq] at this;omega
def Arr (O : List POp) (D : ziS) : Prop:=∀ k : Nat,k < 1024 → O.getD k zop = (getM (k : Int) D).getD zop
theorem Arr.put {O : List POp} {D : ziS} (h : Arr O D) (lo : O.length = 1024) {o : POp} (d : 0 ≤ o.dst) (b : o.dst < 1024) : Arr (O.set o.dst.toNat o) (zjb o.dst o D):=fun k a => by
 rw [zhl]
 by_cases c : o.dst = k
 ·rw [if_pos c,c,ye]
  simp [lo,a]
 ·rw [if_neg c,← h k a]
  simp only [yd];rw [yi (by omega)]
theorem Arr.ops : ∀ (l O : List POp) (D : ziS),Arr O D → O.length = 1024 → (∀ o ∈ l,0 ≤ o.dst ∧ o.dst < 1024) → Arr (zn4 O l) (zky D l)
 | [],_,_,h,_,_ => h
 | o :: l,O,D,h,lo,hd => by
   obtain ⟨c,a⟩:=hd o yo;exact Arr.ops l _ _ (h.put lo c a) (by rw [ya,lo]) fun x b => hd x (yk _ b)
theorem Arr.blocks : ∀ (l : List PBlock) (O : List POp) (D : ziS),Arr O D → O.length = 1024 → (∀ b ∈ l,∀ o ∈ b.ops,0 ≤ o.dst ∧ o.dst < 1024) → Arr (zfS O l) (opsOf D l)
 | [],_,_,h,_,_ => h
 | b :: l,O,D,h,lo,hd => Arr.blocks l _ _ (h.ops _ _ _ lo (hd b yo)) (by rw [zmo,lo]) fun x a => hd x (yk _ a)
def zHN (f : PFunc) : List POp:=(zfS (yc 1024 zop) f.blocks).set 0 zop
theorem zzH (f : PFunc) : (zHN f).length = 1024:=by rw [zHN,ya,zkl,yg]
theorem zCM {f : PFunc} (h : zE9 f) : zHu (zHN f) (zzc f):=fun k c a => by
 have:=Arr.blocks f.blocks (yc 1024 zop) [] (fun k b => by rw [yd,yC,if_pos b]; rfl) (by rw [yg]) h k a;rw [← this,zHN];simp only [yd];rw [yi (by omega)]
section
variable (f : PFunc) (hf : okF f) (hd : zE9 f) (Bf : List Bool) (Mf : List zQ) (lb : Bf.length = 1024) (lm : Mf.length = 1024)
include hf hd lb lm
theorem zJA (i : Nat) (b : i < f.blocks.length) : ∀ (d k : Nat) (O : List POp) (a0 a2 a6 a7 : V),O.length = 1024 → f.blocks[i].ops.length - k = d → k ≤ f.blocks[i].ops.length →
  exec T zdu ⟨[a0,.one (.ptr 0 0 0 0),a2,.one (.ptr 1 0 0 0),vI i,vI k,a6,a7],[.cells 0 3 [zaP f],.cells 0 9216 [FC O Bf Mf]],0,2⟩ =
   some (.exit 2,⟨[vU,.one (.ptr 0 0 0 0),vU,.one (.ptr 1 0 0 0),vI i,vU,vU,vU],[.cells 0 3 [zaP f],.cells 0 9216 [FC (zn4 O (f.blocks[i].ops.drop k)) Bf Mf]],0,2⟩):=by
 intro d
 induction d with
 | zero =>
   intro k O a0 a2 a6 a7 lo l j;have a : k = f.blocks[i].ops.length:=(by omega);rw [xl zdu rfl,zfF,a];simp -implicitDefEqProofs only [go_sem,ilt b,zt b,rb,yB,ym,yE,zn4,zlZ]
 | succ d ih =>
   intro k O a0 a2 a6 a7 lo l j;have a : k < f.blocks[i].ops.length:=(by omega);have e : f.blocks[i].ops.drop k = f.blocks[i].ops[k] :: f.blocks[i].ops.drop (k + 1):=yf a;obtain ⟨h,p1⟩:=hd _ (yj b) _ (yj a);have c : (0 ≤ f.blocks[i].ops[k].dst) = True:=eq_true h;have g : (f.blocks[i].ops[k].dst < 1024) = True:=eq_true p1;obtain ⟨f1,_,f3⟩:=zIi (O:=O) lo lb lm (k:=f.blocks[i].ops[k].dst.toNat) (by omega);have f3:=f3 f.blocks[i].ops[k];have m:=(hf.block _ (yj b)).ops;have:=ih (k + 1) (O.set f.blocks[i].ops[k].dst.toNat f.blocks[i].ops[k]) vU vU vU vU (by rw [ya,lo]) (by omega) (by omega);rw [xl zdu rfl,zfF,e,zn4];simp -implicitDefEqProofs only [go_sem] at this f3;simp -implicitDefEqProofs only [go_sem,ilt b,zt b,rb,ilt a,zt a,ro,yB,c,g,f1,f3,zlZ,za a m,this]
theorem zKe : ∀ (d i : Nat) (O : List POp) (a0 a2 a5 a6 a7 : V),O.length = 1024 → f.blocks.length - i = d → i ≤ f.blocks.length →
  exec T zbJ ⟨[a0,.one (.ptr 0 0 0 0),a2,.one (.ptr 1 0 0 0),vI i,a5,a6,a7],[.cells 0 3 [zaP f],.cells 0 9216 [FC O Bf Mf]],0,2⟩ =
   some (.exit 0,⟨[vU,vU,vU,.one (.ptr 1 0 0 0),vU,vU,vU,vU],[.cells 0 3 [zaP f],.cells 0 9216 [FC (zfS O (f.blocks.drop i)) Bf Mf]],0,2⟩):=by
 intro d
 induction d with
 | zero =>
   intro i O a0 a2 a5 a6 a7 lo c e;have g : i = f.blocks.length:=(by omega);rw [xl zbJ rfl,zfK,g];simp -implicitDefEqProofs only [go_sem,yB,ym,yE,zfS,zlZ]
 | succ d ih =>
   intro i O a0 a2 a5 a6 a7 lo c e;have a : i < f.blocks.length:=(by omega);have b : f.blocks.drop i = f.blocks[i] :: f.blocks.drop (i + 1):=yf a;have q:=fun a0 a2 a6 a7 => zJA f hf hd Bf Mf lb lm i a f.blocks[i].ops.length 0 O a0 a2 a6 a7 lo (by omega) (by omega);simp only [yx,yt] at q;have:=ih (i + 1) (zn4 O f.blocks[i].ops) vU vU vU vU vU (by rw [zmo,lo]) (by omega) (by omega);rw [xl zbJ rfl,zfK,b,zfS];simp -implicitDefEqProofs only [go_sem] at this q;simp -implicitDefEqProofs only [go_sem,ilt a,zt a,rb,yB,q,zlZ,za a hf.blocks,this]
end
def zye : Go.A.Code:=zE.body.p1
def zHh : Go.A.Code:=zE.body.p2.p1
def zyh : Go.A.Code:=zE.body.p2.p2
theorem zF7 : zE.body = .seq zye (.seq zHh zyh):=rfl
def zKt : List C:=(yc 1024 [C.f (.lit (.int .i64 0)),.f (.lit (.int .i64 0)),.f (.lit (.int .i64 0)),.f (.lit (.int .i64 0)),.f (.sl []),.f (.lit (.int .u64 0))]).flatten ++ (yc 1024 [C.f (.lit (.bool false))]).flatten ++ (yc 1024 [C.f (.sl []),.f (.lit (.int .u64 0))]).flatten
theorem zDB : zHh = .reg [q (.bld zKt [] []),q (.box 9216 (.l 0)),w 3 (.mv (.l 0))]:=rfl
theorem zA1 : zye = .reg [w 1 (.box 3 (.s 0)),w 2 (.mv (.c (.one (.f (.lit (.pointer none))))))]:=rfl
theorem zAn : zyh = .seq (.seq (.reg [w 4 (.mv (i 0))]) (.block 0 zbJ)) (.seq (.reg [q (.mv (.s 3)),q (.bld [.f (.lit (.int .i64 0)),.f (.lit (.int .i64 0)),.f (.lit (.int .i64 0)),.f (.lit (.int .i64 0)),.f (.sl []),.f (.lit (.int .u64 0))] [] []),q (.nil (.l 1)),q (.fa 0 (.l 0)),q (.iaa 1024 6 (.l 0) (i 0)),e (.st 6 (.l 0) (.l 3))]) (.seq (.reg [q (.mv (.s 3)),w 2 (.mv (.l 0))]) (.ret [false,false,true,false,false,false,false,false]))):=rfl
theorem zHA : zKt = FC (yc 1024 zop) (yc 1024 false) (yc 1024 zlL):=by
 unfold zKt FC;rw [yh];simp only [List.flatMap_def,yK];rfl
theorem zIP (Z : List C) (O : List POp) (B : List Bool) (M : List zQ) (a : Z = FC O B M) (lo : O.length = 1024) (lb : B.length = 1024) (lm : M.length = 1024) (X : Ob) (a0 a2 a3 a4 a5 a6 a7 : V) :
  exec T (.reg [q (.bld Z [] []),q (.box 9216 (.l 0)),w 3 (.mv (.l 0))]) ⟨[a0,.one (.ptr 0 0 0 0),a2,a3,a4,a5,a6,a7],[X],0,2⟩ =
   some (.normal,⟨[a0,.one (.ptr 0 0 0 0),a2,.one (.ptr 1 0 0 0),a4,a5,a6,a7],[X,.cells 0 9216 [FC O B M]],0,2⟩):=by
 subst a;have b:=zJW lo lb lm;have c:=zKd O B M;simp -implicitDefEqProofs only [go_sem,b,c]
theorem zF8 (f : PFunc) (hf : okF f) (hd : zE9 f) : call T 86 [za9 f] [] = some (.one (.ptr 1 0 0 0),[.cells 0 3 [zaP f],.cells 0 9216 [FC (zHN f) (yc 1024 false) (yc 1024 zlL)]]):=by
 rw [ze (fn:=zE) rfl,if_pos (show [za9 f].length = zE.np from rfl),zF7];have d : (yc 1024 zop).length = 1024:=yg;have c : (yc 1024 false).length = 1024:=yg;have e : (yc 1024 zlL).length = 1024:=yg;have e1:=zIP zKt _ _ _ zHA d c e (.cells 0 3 [zaP f]) (za9 f) (.one (.f (.lit (.pointer none)))) vU vU vU vU vU;have h:=fun a0 a2 a5 a6 a7 => zKe f hf hd _ _ c e f.blocks.length 0 _ a0 a2 a5 a6 a7 d (by omega) (by omega);have g:=(zIi (O:=zfS (yc 1024 zop) f.blocks) (by rw [zkl,d]) c e (k:=0) (by omega));have b:=g.1;have a:=g.2.2 zop;have en : (zfS (yc 1024 zop) f.blocks).set 0 zop = zHN f:=rfl;rw [en] at a;generalize yc 1024 zop = Oz at *;generalize yc 1024 false = Bz at *;generalize yc 1024 zlL = Mz at *;simp only [yx,yt] at h;rw [← zDB] at e1
 have e0 : exec T zye (enter zE [za9 f] []) = some (.normal,⟨[za9 f,.one (.ptr 0 0 0 0),.one (.f (.lit (.pointer none))),vU,vU,vU,vU,vU],[.cells 0 3 [zaP f]],0,2⟩):=by
  rw [zA1,show enter zE [za9 f] [] = ⟨[za9 f,vU,vU,vU,vU,vU,vU,vU],[],0,2⟩ from rfl];simp -implicitDefEqProofs only [go_sem]
 rw [zdY,e0];simp only [yw,zsm];rw [zdY,e1];simp only [yw,zsm]
 have e2 : exec T zyh ⟨[za9 f,.one (.ptr 0 0 0 0),.one (.f (.lit (.pointer none))),.one (.ptr 1 0 0 0),vU,vU,vU,vU],[.cells 0 3 [zaP f],.cells 0 9216 [FC Oz Bz Mz]],0,2⟩ = some (.ret,⟨[vU,vU,.one (.ptr 1 0 0 0),vU,vU,vU,vU,vU],[.cells 0 3 [zaP f],.cells 0 9216 [FC (zHN f) Bz Mz]],0,2⟩):=by
  simp -implicitDefEqProofs only [go_sem] at h b a;rw [zAn];simp -implicitDefEqProofs only [go_sem,h,b,a,zlZ]
 rw [e2];simp -implicitDefEqProofs only [go_sem,zlZ,show zE.raw = false from rfl,show zE.results = [(2,none)] from rfl]
end AC
namespace AC
open Go Go.A
def LB : Nat:=140737488351232
structure anyB (b : PBlock) : Prop where
 phis : b.phis.length ≤ LB
 ops : b.ops.length ≤ LB
 phi : ∀ p ∈ b.phis,p.src.length ≤ LB ∧ p.args.length ≤ LB
 op : ∀ o ∈ b.ops,(0 ≤ o.imm ∧ o.imm < 18446744073709551616) ∧ o.args.length ≤ LB
 to : b.to.length ≤ LB
structure anyF (f : PFunc) : Prop where
 params : f.params.length ≤ LB
 blocks : f.blocks.length ≤ LB
 block : ∀ b ∈ f.blocks,anyB b
theorem zxk {n : Nat} (h : n ≤ 9223372036854775807) : Go.IntKind.i64.wrap (n : Int) = (n : Int):=wrap_i64 (by omega) (by omega)
theorem zml {k n : Nat} (h : k < n) (a : n ≤ LB) : Go.IntKind.i64.wrap ((k : Int) + 1) = ((k + 1 : Nat) : Int):=by
 unfold LB at a;rw [wrap_i64] <;> omega
end AC
namespace AC
open Go Go.A Go.A.Lex
def zy7 : Nat → List PPhi → Nat
 | n,[] => n
 | n,p :: r => if n ≤ 20000 then zy7 (n + 1 + p.src.length + p.args.length) r else n
def zBB : Nat → List POp → Nat
 | n,[] => n
 | n,o :: r => if n ≤ 20000 then zBB (n + 1 + o.args.length) r else n
def zBz : Nat → List PBlock → Nat
 | n,[] => n
 | n,b :: r => if n ≤ 20000 then zBz (zBB (zy7 (n + 1 + b.to.length) b.phis) b.ops) r else n
def ztC (f : PFunc) : Bool:=decide (zBz f.params.length f.blocks ≤ 20000)
theorem zCw (b : LB = 140737488351232) : ∀ (l : List PPhi) (n : Nat),(∀ p ∈ l,p.src.length ≤ LB ∧ p.args.length ≤ LB) → n ≤ 500000000000000 → zy7 n l ≤ 500000000000000
 | [],n,_,h => h
 | p :: l,n,hp,h => by
   have:=hp p yo;rw [zy7];split
   ·exact zCw b l _ (fun q a => hp q (yk _ a)) (by omega)
   ·exact h
theorem zCd (b : LB = 140737488351232) : ∀ (l : List POp) (n : Nat),(∀ p ∈ l,p.args.length ≤ LB) → n ≤ 500000000000000 → zBB n l ≤ 500000000000000
 | [],n,_,h => h
 | p :: l,n,hp,h => by
   have:=hp p yo;rw [zBB];split
   ·exact zCd b l _ (fun q a => hp q (yk _ a)) (by omega)
   ·exact h
section
variable (f : PFunc) (hf : anyF f)
include hf
theorem zK9 (i : Nat) (b : i < f.blocks.length) : ∀ (d k n : Nat) (a0 a2 a6 a7 a8 a9 : V),f.blocks[i].phis.length - k = d → k ≤ f.blocks[i].phis.length → n ≤ 1000000000000000 →
  exec T zcb ⟨[a0,.one (.ptr 0 0 0 0),a2,vI (n : Int),vI i,vI k,a6,a7,a8,a9],[.cells 0 3 [zaP f]],0,0⟩ =
   some (.exit 2,⟨[vU,.one (.ptr 0 0 0 0),vU,vI (zy7 n (f.blocks[i].phis.drop k) : Nat),vI i,vU,vU,vU,vU,vU],[.cells 0 3 [zaP f]],0,0⟩):=by
 have j:=hf.block _ (yj b);intro d
 induction d with
 | zero =>
   intro k n a0 a2 a6 a7 a8 a9 r o p;have a : k = f.blocks[i].phis.length:=(by omega);subst a;have e : f.blocks[i].phis.drop f.blocks[i].phis.length = []:=(by simp);rw [xl zcb rfl,zeq,e,zy7];simp -implicitDefEqProofs only [go_sem,zt b,rb,ym]
 | succ d ih =>
   intro k n a0 a2 a6 a7 a8 a9 r o p;have a : k < f.blocks[i].phis.length:=(by omega);have g : f.blocks[i].phis.drop k = f.blocks[i].phis[k] :: f.blocks[i].phis.drop (k + 1):=yf a;have s:=j.phi _ (yj a);have t : LB = 140737488351232:=rfl;rw [xl zcb rfl,zeq,g,zy7]
   by_cases c : n ≤ 20000
   ·have h : ((n : Nat) : Int) ≤ 20000:=by omega
    have l : Go.IntKind.i64.wrap ((n : Int) + 1) = ((n + 1 : Nat) : Int):=zxk (n:=n + 1) (by omega);have q : Go.IntKind.i64.wrap (((n + 1 : Nat) : Int) + (f.blocks[i].phis[k].src.length : Int)) = ((n + 1 + f.blocks[i].phis[k].src.length : Nat) : Int):=zxk (n:=n + 1 + f.blocks[i].phis[k].src.length) (by omega);have m : Go.IntKind.i64.wrap (((n + 1 + f.blocks[i].phis[k].src.length : Nat) : Int) + (f.blocks[i].phis[k].args.length : Int)) = ((n + 1 + f.blocks[i].phis[k].src.length + f.blocks[i].phis[k].args.length : Nat) : Int):=zxk (n:=n + 1 + f.blocks[i].phis[k].src.length + f.blocks[i].phis[k].args.length) (by omega);have:=ih (k + 1) (n + 1 + f.blocks[i].phis[k].src.length + f.blocks[i].phis[k].args.length) vU vU vU vU vU vU (by omega) (by omega) (by omega);rw [if_pos c];simp -implicitDefEqProofs only [go_sem] at this;simp -implicitDefEqProofs only [go_sem,ilt a,zt b,zt a,rb,rp,h,l,q,m,zml a j.phis,this]
   ·have h : ¬ ((n : Nat) : Int) ≤ 20000:=by omega
    rw [if_neg c];simp -implicitDefEqProofs only [go_sem,ilt a,zt b,rb,h]
theorem zKJ (i : Nat) (b : i < f.blocks.length) : ∀ (d k n : Nat) (a0 a2 a5 a7 a8 a9 : V),f.blocks[i].ops.length - k = d → k ≤ f.blocks[i].ops.length → n ≤ 1000000000000000 →
  exec T zcm ⟨[a0,.one (.ptr 0 0 0 0),a2,vI (n : Int),vI i,a5,vI k,a7,a8,a9],[.cells 0 3 [zaP f]],0,0⟩ =
   some (.exit 4,⟨[vU,.one (.ptr 0 0 0 0),vU,vI (zBB n (f.blocks[i].ops.drop k) : Nat),vI i,vU,vU,vU,vU,vU],[.cells 0 3 [zaP f]],0,0⟩):=by
 have j:=hf.block _ (yj b);intro d
 induction d with
 | zero =>
   intro k n a0 a2 a5 a7 a8 a9 p m o;have a : k = f.blocks[i].ops.length:=(by omega);subst a;have e : f.blocks[i].ops.drop f.blocks[i].ops.length = []:=(by simp);rw [xl zcm rfl,zet,e,zBB];simp -implicitDefEqProofs only [go_sem,zt b,rb,ym]
 | succ d ih =>
   intro k n a0 a2 a5 a7 a8 a9 p m o;have a : k < f.blocks[i].ops.length:=(by omega);have g : f.blocks[i].ops.drop k = f.blocks[i].ops[k] :: f.blocks[i].ops.drop (k + 1):=yf a;have r:=j.op _ (yj a);have s : LB = 140737488351232:=rfl;rw [xl zcm rfl,zet,g,zBB]
   by_cases c : n ≤ 20000
   ·have h : ((n : Nat) : Int) ≤ 20000:=by omega
    have l : Go.IntKind.i64.wrap ((n : Int) + 1) = ((n + 1 : Nat) : Int):=zxk (n:=n + 1) (by omega);have q : Go.IntKind.i64.wrap (((n + 1 : Nat) : Int) + (f.blocks[i].ops[k].args.length : Int)) = ((n + 1 + f.blocks[i].ops[k].args.length : Nat) : Int):=zxk (n:=n + 1 + f.blocks[i].ops[k].args.length) (by omega);have:=ih (k + 1) (n + 1 + f.blocks[i].ops[k].args.length) vU vU vU vU vU vU (by omega) (by omega) (by omega);rw [if_pos c];simp -implicitDefEqProofs only [go_sem] at this;simp -implicitDefEqProofs only [go_sem,ilt a,zt b,zt a,rb,ro,h,l,q,zml a j.ops,this]
   ·have h : ¬ ((n : Nat) : Int) ≤ 20000:=by omega
    rw [if_neg c];simp -implicitDefEqProofs only [go_sem,ilt a,zt b,rb,h]
theorem zLh : ∀ (d k n : Nat) (a0 a2 a5 a6 a7 a8 a9 : V),f.blocks.length - k = d → k ≤ f.blocks.length → n ≤ 500000000000000 →
  exec T zci ⟨[a0,.one (.ptr 0 0 0 0),a2,vI (n : Int),vI k,a5,a6,a7,a8,a9],[.cells 0 3 [zaP f]],0,0⟩ =
   some (.exit 0,⟨[vU,vU,vU,vI (zBz n (f.blocks.drop k) : Nat),vU,vU,vU,vU,vU,vU],[.cells 0 3 [zaP f]],0,0⟩):=by
 have i : LB = 140737488351232:=rfl;intro d
 induction d with
 | zero =>
   intro k n a0 a2 a5 a6 a7 a8 a9 s p q;have a : k = f.blocks.length:=(by omega);subst a;have e : f.blocks.drop f.blocks.length = []:=(by simp);rw [xl zci rfl,zeG,e,zBz];simp -implicitDefEqProofs only [go_sem,ym]
 | succ d ih =>
   intro k n a0 a2 a5 a6 a7 a8 a9 s p q;have a : k < f.blocks.length:=(by omega);have g : f.blocks.drop k = f.blocks[k] :: f.blocks.drop (k + 1):=yf a;have b:=hf.block _ (yj a);have j:=b.to;rw [xl zci rfl,zeG,g,zBz]
   by_cases c : n ≤ 20000
   ·have h : ((n : Nat) : Int) ≤ 20000:=by omega
    have l : Go.IntKind.i64.wrap ((n : Int) + 1) = ((n + 1 : Nat) : Int):=zxk (n:=n + 1) (by omega);have r : Go.IntKind.i64.wrap (((n + 1 : Nat) : Int) + (f.blocks[k].to.length : Int)) = ((n + 1 + f.blocks[k].to.length : Nat) : Int):=zxk (n:=n + 1 + f.blocks[k].to.length) (by omega);have b1:=zCw i f.blocks[k].phis (n + 1 + f.blocks[k].to.length) b.phi (by omega);have b2:=zCd i f.blocks[k].ops _ (fun o m => (b.op o m).2) b1;have p1:=fun a0 a2 a6 a7 a8 a9 => zK9 f hf k a f.blocks[k].phis.length 0 (n + 1 + f.blocks[k].to.length) a0 a2 a6 a7 a8 a9 (by omega) (by omega) (by omega);have p2:=fun a0 a2 a5 a7 a8 a9 => zKJ f hf k a f.blocks[k].ops.length 0 (zy7 (n + 1 + f.blocks[k].to.length) f.blocks[k].phis) a0 a2 a5 a7 a8 a9 (by omega) (by omega) (by omega);have:=ih (k + 1) (zBB (zy7 (n + 1 + f.blocks[k].to.length) f.blocks[k].phis) f.blocks[k].ops) vU vU vU vU vU vU vU (by omega) (by omega) b2;rw [if_pos c];rw [yx] at p1 p2;simp -implicitDefEqProofs only [go_sem] at this p1 p2;simp -implicitDefEqProofs only [go_sem,ilt a,zt a,rb,h,l,r,p1,p2,zml a hf.blocks,this]
   ·have h : ¬ ((n : Nat) : Int) ≤ 20000:=by omega
    rw [if_neg c];simp -implicitDefEqProofs only [go_sem,ilt a,h]
theorem zvg : call T 61 [za9 f] [] = some (vB (ztC f),[]):=by
 have d : LB = 140737488351232:=rfl;have b:=hf.params;rw [ze (fn:=zdg) rfl];have h:=fun a0 a2 a5 a6 a7 a8 a9 => zLh f hf f.blocks.length 0 f.params.length a0 a2 a5 a6 a7 a8 a9 (by omega) (by omega) (by omega);rw [yx] at h;simp -implicitDefEqProofs only [go_sem] at h;unfold ztC
 by_cases c : zBz f.params.length f.blocks ≤ 20000
 ·have a : ((zBz f.params.length f.blocks : Nat) : Int) ≤ 20000:=by omega
  simp -implicitDefEqProofs only [go_sem,zdg,h,c,a]
 ·have a : ¬ ((zBz f.params.length f.blocks : Nat) : Int) ≤ 20000:=by omega
  simp -implicitDefEqProofs only [go_sem,zdg,h,c,a]
theorem zJp : ∀ (d k : Nat) (n : Int),f.blocks.length - k = d → k ≤ f.blocks.length →
  ∃ m : Int,∀ (a0 a2 a5 : V),exec T zca ⟨[a0,.one (.ptr 0 0 0 0),a2,vI n,vI k,a5],[.cells 0 3 [zaP f]],0,0⟩ =
    some (.exit 0,⟨[vU,.one (.ptr 0 0 0 0),vU,vI m,vU,vU],[.cells 0 3 [zaP f]],0,0⟩):=by
 have e : LB = 140737488351232:=rfl;intro d
 induction d with
 | zero =>
   intro k n b c;have a : k = f.blocks.length:=(by omega);subst a;refine ⟨n,fun a0 a2 a5 => ?_⟩;rw [xl zca rfl,zep];simp -implicitDefEqProofs only [go_sem,ym]
 | succ d ih =>
   intro k n b c;have a : k < f.blocks.length:=(by omega);obtain ⟨m,hm⟩:=ih (k + 1) (Go.IntKind.i64.wrap (Go.IntKind.i64.wrap (Go.IntKind.i64.wrap (n + 1) + (f.blocks[k].ops.length : Int)) + (f.blocks[k].phis.length : Int))) (by omega) (by omega);refine ⟨m,fun a0 a2 a5 => ?_⟩;have:=hm vU vU vU;rw [xl zca rfl,zep];simp -implicitDefEqProofs only [go_sem] at this;simp -implicitDefEqProofs only [go_sem,ilt a,zt a,rb,zml a hf.blocks,this]
theorem zuX : ∃ b : Bool,call T 16 [za9 f] [] = some (vB b,[]) ∧ (b = true → ztC f = true):=by
 obtain ⟨m,hm⟩:=zJp f hf f.blocks.length 0 0 (by omega) (by omega);have a:=zvg f hf;rw [ze (fn:=zN) rfl];simp -implicitDefEqProofs only [go_sem] at hm a;cases c : ztC f
 ·refine ⟨false,?_,fun h => by cases h⟩
  rw [c] at a;simp -implicitDefEqProofs only [go_sem,zN,hm,a]
 ·rw [c] at a
  by_cases c1 : (f.blocks.length : Int) ≤ 16
  ·have d : ¬ (64 : Int) < (f.blocks.length : Int):=by omega
   by_cases c3 : m ≤ 100
   ·refine ⟨true,?_,fun _ => rfl⟩
    simp -implicitDefEqProofs only [go_sem,zN,hm,a,c1,c3]
   ·by_cases c4 : 512 < m
    ·refine ⟨true,?_,fun _ => rfl⟩
     simp -implicitDefEqProofs only [go_sem,zN,hm,a,c1,d,c3,c4]
    ·refine ⟨false,?_,fun h => by cases h⟩
     simp -implicitDefEqProofs only [go_sem,zN,hm,a,c1,d,c3,c4]
  ·by_cases c2 : (64 : Int) < (f.blocks.length : Int)
   ·refine ⟨true,?_,fun _ => rfl⟩
    simp -implicitDefEqProofs only [go_sem,zN,hm,a,c1,c2]
   ·by_cases c4 : 512 < m
    ·refine ⟨true,?_,fun _ => rfl⟩
     simp -implicitDefEqProofs only [go_sem,zN,hm,a,c1,c2,c4]
    ·refine ⟨false,?_,fun h => by cases h⟩
     simp -implicitDefEqProofs only [go_sem,zN,hm,a,c1,c2,c4]
end
theorem zEu : ∀ (l : List PPhi) (n : Nat),zy7 n l ≤ 20000 → n + l.length ≤ zy7 n l ∧ ∀ p ∈ l,p.src.length ≤ 20000 ∧ p.args.length ≤ 20000
 | [],n,_ => ⟨yR _,fun _ h => by simp at h⟩
 | p :: l,n,h => by
   rw [zy7] at h ⊢;split at h
   ·rename_i c
    obtain ⟨d,b⟩:=zEu l _ h;rw [if_pos c];refine ⟨by simp only [yy]; omega,fun q a => ?_⟩;rcases yz.1 a with rfl | a
    ·omega
    ·exact b q a
   ·omega
theorem zDU : ∀ (l : List POp) (n : Nat),zBB n l ≤ 20000 → n + l.length ≤ zBB n l ∧ ∀ p ∈ l,p.args.length ≤ 20000
 | [],n,_ => ⟨yR _,fun _ h => by simp at h⟩
 | p :: l,n,h => by
   rw [zBB] at h ⊢;split at h
   ·rename_i c
    obtain ⟨d,b⟩:=zDU l _ h;rw [if_pos c];refine ⟨by simp only [yy]; omega,fun q a => ?_⟩;rcases yz.1 a with rfl | a
    ·omega
    ·exact b q a
   ·omega
theorem zCt : ∀ (l : List PBlock) (n : Nat),(∀ b ∈ l,anyB b) → zBz n l ≤ 20000 → n + l.length + (l.map fun b => b.phis.length + b.ops.length).sum ≤ zBz n l ∧ ∀ b ∈ l,okB b
 | [],n,_,_ => ⟨by simp [zBz],fun _ h => by simp at h⟩
 | b :: l,n,ha,h => by
   rw [zBz] at h ⊢;split at h
   ·rename_i c
    obtain ⟨m,g⟩:=zCt l _ (fun x j => ha x (yk _ j)) h;rw [if_pos c];obtain ⟨k,i⟩:=zDU b.ops _ (show zBB (zy7 (n + 1 + b.to.length) b.phis) b.ops ≤ 20000 by omega);obtain ⟨p1,p2⟩:=zEu b.phis _ (show zy7 (n + 1 + b.to.length) b.phis ≤ 20000 by omega);refine ⟨by simp only [yy,yH,List.sum_cons]; omega,fun q a => ?_⟩;rcases yz.1 a with rfl | a
    ·have f:=ha q yo
     exact ⟨by omega,by omega,fun p e => by have:=p2 p e; exact ⟨by omega,by omega⟩,fun o d => ⟨(f.op o d).1,by have:=i o d; omega⟩,by omega⟩
    ·exact g q a
   ·omega
theorem zGh {f : PFunc} (hf : anyF f) (h : ztC f = true) : okF f:=by
 unfold ztC at h;rw [decide_eq_true_eq] at h;obtain ⟨b,a⟩:=zCt f.blocks _ hf.block h;exact ⟨by omega,by omega,a,by omega⟩
theorem zDb {f : PFunc} (h : RightP f 2) (v : Int) : getM v (zer f) = (lk (zD f) v).map PDef.shape:=by
 have a : zgj (zD f) 0 (zD f) = true:=(zsj (zD f) (zD f) [] rfl).trans ((zoe _ _).2 ⟨h.values,h.once,fun _ _ _ b => by simp at b⟩);have:=(zyT (f:=f) (zii h.may).2.2.1).2 a v;rw [zer,zoV v _ _ (ztJ f),this];cases lk (zD f) v <;> rfl
theorem zE4 {f : PFunc} (h : RightP f 2) {v : Int} {p : PDef} (e : lk (zD f) v = some p) : 0 < v ∧ v < 1024:=by
 unfold lk at e;rw [Option.map_eq_some_iff] at e;obtain ⟨u,hu,_⟩:=e;have a:=List.find?_some hu;have:=h.values u (List.mem_of_find?_eq_some hu);simp only [decide_eq_true_eq] at a;unfold value at this;simp only [ys,decide_eq_true_eq] at this;omega
def zjX (params : List Int) (ret : Int) (ops : List POp) (arg : Int) : PFunc:=⟨params,ret,[⟨[],ops,0,arg,[]⟩]⟩
section
variable (params : List Int) (ret : Int) (ops : List POp) (arg : Int)
theorem zGv : zsA [] = []:=by simp [zsA,zkZ,zam]
theorem zum : zn (zjX params ret ops arg) = [[]]:=by simp [zn,zjX,zGv]
theorem pred_one : z7 [[]] = [[]]:=rfl
theorem zCH : zaQ (zjX params ret ops arg) = true:=by
 rw [zaQ,zum];rfl
theorem zFt : zm6 (zjX params ret ops arg) [-1]:=by
 refine ⟨by simp,fun _ => ?_⟩;rw [zum,pred_one];exact zw9 [[]] [[]] ⟨by simp,by simp⟩ rfl 0 (by simp) 5 (by omega) [0] rfl 0 [] rfl (by simp) (by simp) 5 5 [0] rfl
theorem zDS : zgZ (zjX params ret ops arg) [-1] = true:=by
 rw [zgZ,zCH,zum,pred_one];rfl
theorem zFa : zdU (zjX params ret ops arg) = zk 0 0 ops ++ (if ret = 0 then [] else [⟨arg,(ret,1),0,zlu⟩]):=by
 simp [zdU,zjX,zaH,zgE,zaF,zbP,zjw]
theorem zF1 : zj4 (zjX params ret ops arg) = match zgv 0 0 (zb4 0 [] params) ops with
  | (D2,some o) => (D2,some [.cells 0 5 [zx ⟨[],ops,0,arg,[]⟩],.cells 0 6 [cOp o]])
  | (D2,none) => (D2,none):=by
 simp only [zj4,zjX,zc9,zgT];rfl
end
structure LineOp (w : Int × Int) (o : POp) (d : Int) : Prop where
 may : zeO o = true
 zh5 : zh5 o = true
 dst : o.dst = d
 gives : zJ o = w
 takes : zaa o = o.args.map fun _ => w
 args : ∀ a ∈ o.args,1 ≤ a ∧ a < d
 ok : ztZ o
theorem ztj (o : POp) (i at' : Int) : ∀ (l : List (Int × Int)) (k : Nat),∀ u ∈ zy o i at' k l,∃ q,∃ h : q < l.length,u = ⟨o.args.getD (k + q) 0,l[q],i,at'⟩
 | [],_,u,h => by simp [zy] at h
 | s :: r,k,u,h => by
   rw [zy,yz] at h;rcases h with rfl | h
   ·exact ⟨0,by simp,rfl⟩
   ·obtain ⟨q,a,rfl⟩:=ztj o i at' r (k + 1) u h
    refine ⟨q + 1,by simpa using a,?_⟩;have : k + (q + 1) = k + 1 + q:=(by omega);rw [this];rfl
theorem zkw (ask : Use → Int) : ∀ l : List Use,(∀ u ∈ l,ask u = 0) → zab ask l = 0
 | [],_ => rfl
 | u :: r,h => by rw [zab,if_pos (h u yo)]; exact zkw ask r fun x a => h x (yk _ a)
end AC

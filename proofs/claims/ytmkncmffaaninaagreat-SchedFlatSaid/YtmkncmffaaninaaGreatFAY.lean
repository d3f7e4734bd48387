/- A part of the proof of SchedFlat. Conditions: none. -/
import Derived.Test.YtmkncmffaaninaaGreatFAX
import Derived.Test.YtmkncmffaaninaaGreatFAW
set_option linter.all false
open List renaming drop_eq_getElem_cons → ya,drop_length → yb,length_map → yc,length_append → yd,length_cons → yg,append_assoc → yh,drop_zero → yi,getElem_mem → yk,singleton_append → yl,append_nil → ym,length_nil → yn,map_nil → yr,map → ys
open Int renaming lt_irrefl → ye,natCast_zero → yf,natCast_nonneg → yo,toNat_natCast → yp
open Nat renaming le_add_right → yj,zero_add → yq
namespace AC
open Go Go.A Go.A.Lex
theorem zth {t : List Int} {a : Int} (c : ¬ a < 0) (b : ¬ (t.length : Int) ≤ a) : (t.map ri)[a.toNat]? = some [.lit (.int .i64 (tr t a))]:=by
 have : a.toNat < t.length:=by omega
 rw [zm this];simp [tr,this,ri]
theorem zxQ (t : List Int) (f : t.length ≤ 4294967296) : ∀ (d k : Nat) (a : Int) (a2 a3 a6 a7 a8 : V),t.length - k = d → k ≤ t.length →
  exec T zhu ⟨[vIs t,vI a,a2,a3,vI t.length,vI k,a6,a7,a8],[],0,0⟩ =
   some (match zZ t d k a with
    | none => (.exit 0,⟨[vU,vU,vU,vU,vU,vU,vU,vU,vU],[],0,0⟩)
    | some n => (.ret,⟨[vU,vU,vI n,vU,vU,vU,vU,vU,vU],[],0,0⟩)):=by
 intro d
 induction d with
 | zero =>
   intro k a a2 a3 a6 a7 a8 c e;have b : k = t.length:=(by omega);subst b;rw [xl zhu rfl,zjD];simp -implicitDefEqProofs only [go_sem,ye,zZ]
 | succ d ih =>
   intro k a a2 a3 a6 a7 a8 c e;have b : k < t.length:=(by omega);rw [xl zhu rfl,zjD,zZ]
   by_cases c1 : a < 0
   ·simp -implicitDefEqProofs only [go_sem,ilt b,c1]
   by_cases c2 : (t.length : Int) ≤ a
   ·simp -implicitDefEqProofs only [go_sem,ilt b,c1,c2]
   have c0 : 0 ≤ a:=(by omega);have c3 : a < (t.length : Int):=by omega
   by_cases c4 : tr t a = -1
   ·simp -implicitDefEqProofs only [go_sem,ilt b,c0,c1,c2,c3,zth c1 c2,c4]
   ·have:=ih (k + 1) (tr t a) vU vU vU vU vU (by omega) (by omega)
    simp -implicitDefEqProofs only [go_sem] at this;simp -implicitDefEqProofs only [go_sem,ilt b,c0,c1,c2,c3,zth c1 c2,c4,za b f];rw [this];rfl
@[go_sem] theorem zkD (t : List Int) (a : Int) (b : t.length ≤ 4294967296) : call T 250 [vIs t,vI a] [] = some (vI (zD t a),[]):=by
  rw [ze (fn:=zlf) rfl];have h:=fun a2 a3 a6 a7 a8 => zxQ t b t.length 0 a a2 a3 a6 a7 a8 (by omega) (by omega);simp only [yf] at h;cases e : zZ t t.length 0 a <;> simp -implicitDefEqProofs only [go_sem,e] at h <;> simp -implicitDefEqProofs only [go_sem,zlf,h,zD,e,Option.getD_none,Option.getD_some]
theorem zwy (t : List Int) (c : t.length ≤ 4294967296) : ∀ (d k n : Nat) (a1 a3 a4 a8 a9 b : V),t.length - k = d → k ≤ t.length → n ≤ k →
  exec T zhz ⟨[vIs t,a1,vI n,a3,a4,vIs t,vI t.length,vI k,a8,a9,b],[],0,0⟩ =
   some (match zaF t k n (t.drop k) with
    | none => (.ret,⟨[vU,vB false,vU,vU,vU,vU,vU,vU,vU,vU,vU],[],0,0⟩)
    | some n => (.exit 0,⟨[vU,vU,vI n,vU,vU,vU,vU,vU,vU,vU,vU],[],0,0⟩)):=by
 intro d
 induction d with
 | zero =>
   intro k n a1 a3 a4 a8 a9 b h g i;have a : k = t.length:=(by omega);subst a;rw [xl zhz rfl,zkg];simp -implicitDefEqProofs only [go_sem,ye,yb,zaF]
 | succ d ih =>
   intro k n a1 a3 a4 a8 a9 b h g i;have a : k < t.length:=(by omega);have hd : t.drop k = t[k] :: t.drop (k + 1):=ya a;have e:=zkD t k c;have f:=za (k:=n) (n:=t.length) (by omega) c;rw [xl zhz rfl,zkg,hd,zaF];simp -implicitDefEqProofs only [go_sem] at e
   by_cases c1 : t[k] = -2
   ·have:=ih (k + 1) n vU vU vU vU vU vU (by omega) (by omega) (by omega)
    simp -implicitDefEqProofs only [go_sem] at this;simp -implicitDefEqProofs only [go_sem,ilt a,zm a,ri,c1,za a c];rw [this]
    all_goals rfl
   ·by_cases c2 : t[k] = -1
    ·by_cases c3 : zD t k < 0
     ·simp -implicitDefEqProofs only [go_sem,ilt a,zm a,ri,c1,c2,e,c3,f]
     ·have:=ih (k + 1) (n + 1) vU vU vU vU vU vU (by omega) (by omega) (by omega)
      simp -implicitDefEqProofs only [go_sem] at this;simp -implicitDefEqProofs only [go_sem,ilt a,zm a,ri,c1,c2,e,c3,f,za a c];rw [this]
      all_goals rfl
    ·by_cases c3 : zD t k < 0
     ·simp -implicitDefEqProofs only [go_sem,ilt a,zm a,ri,c1,c2,e,c3]
     ·have:=ih (k + 1) n vU vU vU vU vU vU (by omega) (by omega) (by omega)
      simp -implicitDefEqProofs only [go_sem] at this;simp -implicitDefEqProofs only [go_sem,ilt a,zm a,ri,c1,c2,e,c3,za a c];rw [this]
      all_goals rfl
@[go_sem] theorem zxr (t : List Int) (d : t.length ≤ 4294967296) : call T 248 [vIs t] [] = some (vB (zgz t),[]):=by
  rw [ze (fn:=zhi) rfl];have h:=fun a1 a3 a4 a8 a9 a => zwy t d t.length 0 0 a1 a3 a4 a8 a9 a (by omega) (by omega) (by omega);simp only [yf,yi] at h
  cases e : zaF t 0 0 t with
  | none =>
    simp -implicitDefEqProofs only [go_sem,e] at h;simp -implicitDefEqProofs only [go_sem,zhi,h,zgz,e];rfl
  | some n =>
    simp -implicitDefEqProofs only [go_sem,e] at h
    by_cases c : n = 1
    ·subst c
     simp -implicitDefEqProofs only [go_sem,zhi,h,zgz,e];rfl
    ·have b : ¬ (n : Int) = 1:=by omega
     have c2 : (some n == some 1) = false:=(by simpa using c);simp -implicitDefEqProofs only [go_sem,zhi,h,zgz,e,b,c2]
theorem zrw (t : List Int) (a : Int) (b : t.length ≤ 4294967296) (r : zd) : call T 249 [vI a,.one (.ptr 0 0 0 0)] (.cells 0 1 [[.f (eI t)]] :: r) = some (vB (decide (zD t a < 0)),.cells 0 1 [[.f (eI t)]] :: r):=by
 rw [ze (fn:=zmR) rfl];have h:=zkD t a b;simp -implicitDefEqProofs only [go_sem] at h;simp -implicitDefEqProofs only [go_sem,zmR,h]
theorem zvn (t l : List Int) (g : t.length ≤ 4294967296) (b : l.length ≤ 4294967296) : call T 232 [vIs t,vIs l] [] = some (vB (inS t l),[]):=by
 rw [ze (fn:=zrJ) rfl];have d:=zap l (fun a => decide (zD t a < 0)) 249 [] [.ptr 0 0 0 0] [.cells 0 1 [[.f (eI t)]]] b (fun x _ => zrw t x g []);have e:=zxr t g;simp -implicitDefEqProofs only [go_sem] at d;cases c : zgz t <;> simp -implicitDefEqProofs only [go_sem,c] at e <;> simp -implicitDefEqProofs only [go_sem,zrJ,e,c,d,inS]
theorem znW (t : List Int) (a b : Int) (c : t.length ≤ 4294967296) : call T 232 [vIs t,vL [[ei a],[ei b]]] [] = some (vB (inS t [a,b]),[]):=zvn t [a,b] c (by simp)
theorem zyN (t : List Int) (i : t.length ≤ 4294967296) (h : zgz t = true) : ∀ (d : Nat) (a b : Int) (a3 a4 a5 a6 : V),0 ≤ zD t a → 0 ≤ zD t b → zD t a + zD t b ≤ d →
  exec T ziF ⟨[vIs t,vI a,vI b,a3,a4,a5,a6],[],0,0⟩ = some (.exit 0,⟨[vU,vI (ziz t d a b),vU,vU,vU,vU,vU],[],0,0⟩):=by
 intro d
 induction d with
 | zero =>
   intro a b a3 a4 a5 a6 g f hd;have l:=zg1 g;have m:=zg1 f;have e : a = b:=ztI h l m (zgV (by omega)) (zgV (by omega));subst e;rw [xl ziF rfl,zli];simp -implicitDefEqProofs only [go_sem,ziz]
 | succ d ih =>
   intro a b a3 a4 a5 a6 g f hd;obtain ⟨a0,a1⟩:=zg1 g;obtain ⟨b0,b1⟩:=zg1 f;have ca:=zkD t a i;have cb:=zkD t b i;simp -implicitDefEqProofs only [go_sem] at ca cb;rw [xl ziF rfl,zli,ziz]
   by_cases c1 : a = b
   ·subst c1
    simp -implicitDefEqProofs only [go_sem]
   by_cases c2 : zD t b ≤ zD t a
   ·have c : tr t a ≠ -1:=fun e => by
     have k:=zkw a0 a1 e;exact c1 (ztI h ⟨a0,a1⟩ ⟨b0,b1⟩ e (zgV (by omega)))
    have j:=zfi g c;have:=ih (tr t a) b vU vU vU vU (by omega) f (by omega);simp -implicitDefEqProofs only [go_sem] at this;simp -implicitDefEqProofs only [go_sem,c1,c2,ca,cb,a0,zth (t:=t) (a:=a) (by omega) (by omega),this]
   ·have c : tr t b ≠ -1:=fun e => by
     have k:=zkw b0 b1 e;omega
    have j:=zfi f c;have:=ih a (tr t b) vU vU vU vU g (by omega) (by omega);simp -implicitDefEqProofs only [go_sem] at this;simp -implicitDefEqProofs only [go_sem,c1,c2,ca,cb,b0,zth (t:=t) (a:=b) (by omega) (by omega),this]
@[go_sem] theorem zAi (t : List Int) (a b : Int) (e : t.length ≤ 4294967296) : call T 233 [vIs t,vI a,vI b] [] = some (vI (zxE t a b),[]):=by
  rw [ze (fn:=zkj) rfl];have d:=znW t a b e;cases c : inS t [a,b]
  ·simp -implicitDefEqProofs only [go_sem,c] at d
   simp -implicitDefEqProofs only [go_sem,zkj,d,c,zxE]
  ·obtain ⟨f,i,g⟩:=zDI c
   have h:=fun a3 a4 a5 a6 => zyN t e f (zD t a + zD t b).toNat a b a3 a4 a5 a6 i g (by omega);simp -implicitDefEqProofs only [go_sem,c] at d h;simp -implicitDefEqProofs only [go_sem,zkj,d,c,zxE,h]
@[go_sem] theorem zpc (t : List Int) (a b : Int) (e : t.length ≤ 4294967296) : call T 196 [vIs t,vI a,vI b] [] = some (vB (zkR t a b),[]):=by
  rw [ze (fn:=znm) rfl];have d:=znW t a b e;have hm:=zAi t a b e;simp -implicitDefEqProofs only [go_sem] at hm;cases c : inS t [a,b] <;> simp -implicitDefEqProofs only [go_sem,c] at d <;> simp -implicitDefEqProofs only [go_sem,znm,d,hm,c,zkR]
structure Use where
 v : Int
 shape : Int × Int
 block : Int
 at' : Int
abbrev zmF : Int:=1048576
def zW (ask : Use → Int) : List Use → Int
 | [] => 0
 | u :: r => if ask u = 0 then zW ask r else ask u
theorem zgK (ask : Use → Int) : ∀ (a b : List Use),zW ask (a ++ b) = if zW ask a = 0 then zW ask b else zW ask a
 | [],b => by simp [zW]
 | u :: r,b => by
   simp only [List.cons_append,zW,zgK ask r b]
   by_cases h : ask u = 0 <;> simp [h]
def zF (p : PPhi) (k : Nat) : List Int → List Use
 | [] => []
 | v :: r => ⟨v,(p.bits,1),p.src.getD k 0,zmF⟩ :: zF p (k + 1) r
def zfQ (p : PPhi) : List Use:=zF p 0 p.args
def zQ (o : POp) (i at' : Int) (k : Nat) : List (Int × Int) → List Use
 | [] => []
 | s :: r => ⟨o.args.getD k 0,s,i,at'⟩ :: zQ o i at' (k + 1) r
def zk0 (o : POp) (i at' : Int) : List Use:=zQ o i at' 0 (zaY o)
def zu (i : Int) (k : Nat) : List POp → List Use
 | [] => []
 | o :: r => zk0 o i (k : Int) ++ zu i (k + 1) r
def zam (l : List PPhi) : List Use:=l.flatMap zfQ
def ziy (f : PFunc) (b : PBlock) : Int:=if b.kind = 0 then f.ret else if b.kind = 2 then 1 else 0
def zbp (f : PFunc) (i : Int) (b : PBlock) : List Use:=if ziy f b = 0 then [] else [⟨b.arg,(ziy f b,1),i,zmF⟩]
def zg2 (f : PFunc) (i : Int) (b : PBlock) : List Use:=zam b.phis ++ (zu i 0 b.ops ++ zbp f i b)
def zaC (f : PFunc) (k : Nat) : List PBlock → List Use
 | [] => []
 | b :: r => zg2 f (k : Int) b ++ zaC f (k + 1) r
def zfe (f : PFunc) : List Use:=zaC f 0 f.blocks
abbrev zxT (f : PFunc) (level : Int) (x y z d : C) : Ob:=.cells 0 8 [[.f (eI f.params),.f (ei f.ret),.f (.sl (f.blocks.map rb)),.f (ei level),x,y,z,d]]
theorem zi8 (b : Int) : call T 205 [vI b] [] = some (.agg [.f (ei b),.f (ei 1)],[]):=by
 rw [ze (fn:=zhN) rfl];simp -implicitDefEqProofs only [go_sem,zhN]
section
variable (f : PFunc) (hf : okF f) (level : Int) (x y z dd : C) (g : Nat) (caps : List C) (σ : zd) (hck : σ[1]? = some (zxT f level x y z dd)) (hσ : Ok σ) (hcaps : C.lts σ.length caps = true) (ask : Use → Int)
 (hask : ∀ (r : zd) (u : Use),Obs.lt (σ.length + r.length) r = true → call T g (vI u.v :: .agg [.f (ei u.shape.1),.f (ei u.shape.2)] :: vI u.block :: vI u.at' :: caps.map V.one) (σ ++ r) = some (vI (ask u),σ ++ r))
abbrev zAL : V:=.one (.fn g [] caps)
include hck hσ hcaps hask
theorem zDE (b : PBlock) (p : PPhi) (B : okB b) (E : p ∈ b.phis) (hlen : p.args.length = p.src.length) (i y : Int) : ∀ (d k : Nat) (a2 a7 a8 a9 l m n j o s a25 a26 a27 a28 a29 t q a32 a33 r a35 a36 e : V),p.args.length - k = d → k ≤ p.args.length →
  exec T zcx ⟨[.one (.ptr 1 0 0 0),zAL g caps,a2,vI 0,vI i,.one (.ptr σ.length 0 0 0),.one (.ptr (σ.length + 1) 0 0 0),a7,a8,a9,l,m,n,j,vL (f.blocks.map rb),vI f.blocks.length,vI i,o,vL (b.phis.map rp),vI b.phis.length,vI y,s,vIs p.args,vI p.args.length,vI k,a25,a26,a27,a28,a29,t,q,a32,a33,r,a35,a36,e],σ ++ [.cells 0 5 [zh b],.cells 0 4 [zuR p]],σ.length,σ.length⟩ =
   some (if zW ask (zF p k (p.args.drop k)) = 0 then (.exit 4,⟨[.one (.ptr 1 0 0 0),zAL g caps,vU,vI 0,vI i,.one (.ptr σ.length 0 0 0),vU,vU,vU,vU,vU,vU,vU,vU,vL (f.blocks.map rb),vI f.blocks.length,vI i,vU,vL (b.phis.map rp),vI b.phis.length,vI y,vU,vU,vU,vU,vU,vU,vU,vU,vU,vU,vU,vU,vU,vU,vU,vU,vU],σ ++ [.cells 0 5 [zh b],.cells 0 4 [zuR p]],σ.length,σ.length⟩)
    else (.goto 0,⟨[vU,vU,vU,vI (zW ask (zF p k (p.args.drop k))),vU,vU,vU,vU,vU,vU,vU,vU,vU,vU,vU,vU,vU,vU,vU,vU,vU,vU,vU,vU,vU,vU,vU,vU,vU,vU,vU,vU,vU,vU,vU,vU,vU,vU],σ,σ.length,σ.length⟩)):=by
 intro d;have w:=fun k => ze3 (yj σ.length k) caps hcaps;have C : p.args.length ≤ 4294967296:=(B.phi p E).2
 induction d with
 | zero =>
   intro k a2 a7 a8 a9 l m n j o s a25 a26 a27 a28 a29 t q a32 a33 r a35 a36 e D A;have a : k = p.args.length:=(by omega);subst a;rw [xl zcx rfl,zeu];simp -implicitDefEqProofs only [go_sem,ye,yb,zF,zW]
 | succ d ih =>
   intro k a2 a7 a8 a9 l m n j o s a25 a26 a27 a28 a29 t q a32 a33 r a35 a36 e D A;have a : k < p.args.length:=(by omega);have h : k < p.src.length:=(by omega);have hd : p.args.drop k = p.args[k] :: p.args.drop (k + 1):=ya a;have u:=zi8 p.bits;have x:=hask [.cells 0 5 [zh b],.cells 0 4 [zuR p]] ⟨p.args[k],(p.bits,1),p.src[k],zmF⟩ (by simp -implicitDefEqProofs only [go_sem]);have z : p.src.getD k 0 = p.src[k]:=(by simp [h]);rw [xl zcx rfl,zeu,hd,zF,zW,z];simp -implicitDefEqProofs only [go_sem,zmF] at u x
   by_cases c : ask ⟨p.args[k],(p.bits,1),p.src[k],zmF⟩ = 0
   ·have c' : ask { v:=p.args[k],shape:=(p.bits,1),block:=p.src[k],at':=1048576 } = 0:=c
    have:=ih (k + 1) vU vU vU vU vU vU vU vU vU vU vU vU vU vU vU vU vU vU vU vU vU vU vU (by omega) (by omega);simp -implicitDefEqProofs only [go_sem] at this;simp -implicitDefEqProofs only [go_sem,ilt a,zm a,zm h,ri,u,x,c',za a C,zmF,w,Ok.up hσ,zhl hck,Ok.at hσ,zhV hck,this]
   ·have c' : ¬ ask { v:=p.args[k],shape:=(p.bits,1),block:=p.src[k],at':=1048576 } = 0:=c
    simp -implicitDefEqProofs only [go_sem,ilt a,zm a,zm h,ri,u,x,c',zmF,Ok.at hσ]
def zjJ (b : PBlock) : Prop:=(∀ p ∈ b.phis,p.args.length = p.src.length) ∧ ∀ o ∈ b.ops,(zaY o).length ≤ o.args.length
theorem zDn (b : PBlock) (w : okB b) (v : zjJ b) (i : Int) : ∀ (d k : Nat) (a2 a6 a7 a8 a9 j l m h n r a22 a23 a24 a25 a26 a27 a28 a29 q o a32 a33 p a35 a36 a : V),b.phis.length - k = d → k ≤ b.phis.length →
  exec T zbX ⟨[.one (.ptr 1 0 0 0),zAL g caps,a2,vI 0,vI i,.one (.ptr σ.length 0 0 0),a6,a7,a8,a9,j,l,m,h,vL (f.blocks.map rb),vI f.blocks.length,vI i,n,vL (b.phis.map rp),vI b.phis.length,vI k,r,a22,a23,a24,a25,a26,a27,a28,a29,q,o,a32,a33,p,a35,a36,a],σ ++ [.cells 0 5 [zh b]],σ.length,σ.length⟩ =
   some (if zW ask (zam (b.phis.drop k)) = 0 then (.exit 2,⟨[.one (.ptr 1 0 0 0),zAL g caps,vU,vI 0,vI i,.one (.ptr σ.length 0 0 0),vU,vU,vU,vU,vU,vU,vU,vU,vL (f.blocks.map rb),vI f.blocks.length,vI i,vU,vU,vU,vU,vU,vU,vU,vU,vU,vU,vU,vU,vU,vU,vU,vU,vU,vU,vU,vU,vU],σ ++ [.cells 0 5 [zh b]],σ.length,σ.length⟩)
    else (.goto 0,⟨[vU,vU,vU,vI (zW ask (zam (b.phis.drop k))),vU,vU,vU,vU,vU,vU,vU,vU,vU,vU,vU,vU,vU,vU,vU,vU,vU,vU,vU,vU,vU,vU,vU,vU,vU,vU,vU,vU,vU,vU,vU,vU,vU,vU],σ,σ.length,σ.length⟩)):=by
 intro d;have u:=fun k => ze3 (yj σ.length k) caps hcaps
 induction d with
 | zero =>
   intro k a2 a6 a7 a8 a9 j l m h n r a22 a23 a24 a25 a26 a27 a28 a29 q o a32 a33 p a35 a36 a B A;have s : k = b.phis.length:=(by omega);subst s;rw [xl zbX rfl,zeq];simp -implicitDefEqProofs only [go_sem,ye,yb,zam,List.flatMap_nil,zW]
 | succ d ih =>
   intro k a2 a6 a7 a8 a9 j l m h n r a22 a23 a24 a25 a26 a27 a28 a29 q o a32 a33 p a35 a36 a B A;have s : k < b.phis.length:=(by omega);have hd : b.phis.drop k = b.phis[k] :: b.phis.drop (k + 1):=ya s;have hm:=yk s;have t:=fun a2 a7 a8 a9 j l m h n r a25 a26 a27 a28 a29 q o a32 a33 p a35 a36 a => zDE f level x y z dd g caps σ hck hσ hcaps ask hask b b.phis[k] w hm (v.1 _ hm) i k b.phis[k].args.length 0 a2 a7 a8 a9 j l m h n r a25 a26 a27 a28 a29 q o a32 a33 p a35 a36 a (by omega) (by omega);have e : zam (b.phis[k] :: b.phis.drop (k + 1)) = zfQ b.phis[k] ++ zam (b.phis.drop (k + 1)):=(by rw [zam,List.flatMap_cons]; rfl);rw [xl zbX rfl,zeq,hd,e,zgK];simp only [yi,yf] at t;have e2 : zF b.phis[k] 0 b.phis[k].args = zfQ b.phis[k]:=rfl;rw [e2] at t
   by_cases c : zW ask (zfQ b.phis[k]) = 0
   ·have:=ih (k + 1) vU vU vU vU vU vU vU vU vU vU vU vU vU vU vU vU vU vU vU vU vU vU vU vU vU vU vU (by omega) (by omega)
    simp -implicitDefEqProofs only [go_sem,c] at this t;simp -implicitDefEqProofs only [go_sem,ilt s,zm s,rp,t,c,za s w.phis,u,Ok.up hσ,zhl hck,Ok.at hσ,zhV hck,this]
   ·simp -implicitDefEqProofs only [go_sem,c] at t
    simp -implicitDefEqProofs only [go_sem,ilt s,zm s,rp,t,c]
theorem zDZ (b : PBlock) (o : POp) (y : okB b) (B : o ∈ b.ops) (hlen : (zaY o).length ≤ o.args.length) (i u : Int) : ∀ (d k : Nat) (a2 a6 a7 a8 m n j p q l a20 s a22 a23 a24 a25 a26 t r a35 a36 e : V),(zaY o).length - k = d → k ≤ (zaY o).length →
  exec T zcu ⟨[.one (.ptr 1 0 0 0),zAL g caps,a2,vI 0,vI i,.one (.ptr σ.length 0 0 0),a6,a7,a8,vI u,.one (.ptr (σ.length + 1) 0 0 0),m,n,j,vL (f.blocks.map rb),vI f.blocks.length,vI i,p,q,l,a20,s,a22,a23,a24,a25,a26,vL (b.ops.map ro),vI b.ops.length,vI u,t,vSs (zaY o),vI (zaY o).length,vI k,r,a35,a36,e],σ ++ [.cells 0 5 [zh b],.cells 0 6 [cOp o]],σ.length,σ.length⟩ =
   some (if zW ask (zQ o i u k ((zaY o).drop k)) = 0 then (.exit 8,⟨[.one (.ptr 1 0 0 0),zAL g caps,vU,vI 0,vI i,.one (.ptr σ.length 0 0 0),vU,vU,vU,vU,vU,vU,vU,vU,vL (f.blocks.map rb),vI f.blocks.length,vI i,vU,vU,vU,vU,vU,vU,vU,vU,vU,vU,vL (b.ops.map ro),vI b.ops.length,vI u,vU,vU,vU,vU,vU,vU,vU,vU],σ ++ [.cells 0 5 [zh b],.cells 0 6 [cOp o]],σ.length,σ.length⟩)
    else (.goto 0,⟨[vU,vU,vU,vI (zW ask (zQ o i u k ((zaY o).drop k))),vU,vU,vU,vU,vU,vU,vU,vU,vU,vU,vU,vU,vU,vU,vU,vU,vU,vU,vU,vU,vU,vU,vU,vU,vU,vU,vU,vU,vU,vU,vU,vU,vU,vU],σ,σ.length,σ.length⟩)):=by
 intro d;have v:=fun k => ze3 (yj σ.length k) caps hcaps;have A : (zaY o).length ≤ 4294967296:=by have:=(y.op o B).2; omega
 induction d with
 | zero =>
   intro k a2 a6 a7 a8 m n j p q l a20 s a22 a23 a24 a25 a26 t r a35 a36 e C z;have a : k = (zaY o).length:=(by omega);subst a;rw [xl zcu rfl,zeh];simp -implicitDefEqProofs only [go_sem,ye,yb,zQ,zW]
 | succ d ih =>
   intro k a2 a6 a7 a8 m n j p q l a20 s a22 a23 a24 a25 a26 t r a35 a36 e C z;have a : k < (zaY o).length:=(by omega);have h : k < o.args.length:=(by omega);have hd : (zaY o).drop k = (zaY o)[k] :: (zaY o).drop (k + 1):=ya a;have w:=hask [.cells 0 5 [zh b],.cells 0 6 [cOp o],.cells 0 2 [[.f (ei (zaY o)[k].1),.f (ei (zaY o)[k].2)]]] ⟨o.args[k],(zaY o)[k],i,u⟩ (by simp -implicitDefEqProofs only [go_sem]);have x : o.args.getD k 0 = o.args[k]:=(by simp [h]);rw [xl zcu rfl,zeh,hd,zQ,zW,x];simp -implicitDefEqProofs only [go_sem] at w
   by_cases c : ask ⟨o.args[k],(zaY o)[k],i,u⟩ = 0
   ·have:=ih (k + 1) vU vU vU vU vU vU vU vU vU vU vU vU vU vU vU vU vU vU vU vU vU vU (by omega) (by omega)
    simp -implicitDefEqProofs only [go_sem,c] at this w;simp -implicitDefEqProofs only [go_sem,ilt a,zm a,zm h,ri,rs,w,c,za a A,v,Ok.up hσ,zhl hck,Ok.at hσ,zhV hck,this]
   ·simp -implicitDefEqProofs only [go_sem,ilt a,zm a,zm h,ri,rs,w,c,Ok.at hσ]
theorem zC2 (b : PBlock) (w : okB b) (A : zjJ b) (i : Int) : ∀ (d k : Nat) (a2 a6 a7 a8 a9 s j l e m n h a20 p a22 a23 a24 a25 a26 q t a32 a33 o a35 a36 a : V),b.ops.length - k = d → k ≤ b.ops.length →
  exec T zcy ⟨[.one (.ptr 1 0 0 0),zAL g caps,a2,vI 0,vI i,.one (.ptr σ.length 0 0 0),a6,a7,a8,a9,s,j,l,e,vL (f.blocks.map rb),vI f.blocks.length,vI i,m,n,h,a20,p,a22,a23,a24,a25,a26,vL (b.ops.map ro),vI b.ops.length,vI k,q,t,a32,a33,o,a35,a36,a],σ ++ [.cells 0 5 [zh b]],σ.length,σ.length⟩ =
   some (if zW ask (zu i k (b.ops.drop k)) = 0 then (.exit 6,⟨[.one (.ptr 1 0 0 0),zAL g caps,vU,vI 0,vI i,.one (.ptr σ.length 0 0 0),vU,vU,vU,vU,vU,vU,vU,vU,vL (f.blocks.map rb),vI f.blocks.length,vI i,vU,vU,vU,vU,vU,vU,vU,vU,vU,vU,vU,vU,vU,vU,vU,vU,vU,vU,vU,vU,vU],σ ++ [.cells 0 5 [zh b]],σ.length,σ.length⟩)
    else (.goto 0,⟨[vU,vU,vU,vI (zW ask (zu i k (b.ops.drop k))),vU,vU,vU,vU,vU,vU,vU,vU,vU,vU,vU,vU,vU,vU,vU,vU,vU,vU,vU,vU,vU,vU,vU,vU,vU,vU,vU,vU,vU,vU,vU,vU,vU,vU],σ,σ.length,σ.length⟩)):=by
 intro d;have v:=fun k => ze3 (yj σ.length k) caps hcaps
 induction d with
 | zero =>
   intro k a2 a6 a7 a8 a9 s j l e m n h a20 p a22 a23 a24 a25 a26 q t a32 a33 o a35 a36 a D C;have r : k = b.ops.length:=(by omega);subst r;rw [xl zcy rfl,zdZ];simp -implicitDefEqProofs only [go_sem,ye,yb,zu,zW]
 | succ d ih =>
   intro k a2 a6 a7 a8 a9 s j l e m n h a20 p a22 a23 a24 a25 a26 q t a32 a33 o a35 a36 a D C;have r : k < b.ops.length:=(by omega);have hd : b.ops.drop k = b.ops[k] :: b.ops.drop (k + 1):=ya r;have hm:=yk r;have B:=zoX b.ops[k] (w.op _ hm).1 (w.op _ hm).2;have u:=fun a2 a6 a7 a8 j l e m n h a20 p a22 a23 a24 a25 a26 q o a35 a36 a => zDZ f level x y z dd g caps σ hck hσ hcaps ask hask b b.ops[k] w hm (A.2 _ hm) i k (zaY b.ops[k]).length 0 a2 a6 a7 a8 j l e m n h a20 p a22 a23 a24 a25 a26 q o a35 a36 a (by omega) (by omega);rw [xl zcy rfl,zdZ,hd,zu,zgK];simp only [yi,yf] at u;have e2 : zQ b.ops[k] i k 0 (zaY b.ops[k]) = zk0 b.ops[k] i k:=rfl;rw [e2] at u;simp -implicitDefEqProofs only [go_sem] at B
   by_cases c : zW ask (zk0 b.ops[k] i k) = 0
   ·have:=ih (k + 1) vU vU vU vU vU vU vU vU vU vU vU vU vU vU vU vU vU vU vU vU vU vU vU vU vU vU vU (by omega) (by omega)
    simp -implicitDefEqProofs only [go_sem,c] at this u;simp -implicitDefEqProofs only [go_sem,ilt r,zm r,ro,B,u,c,za r w.ops,v,Ok.up hσ,zhl hck,Ok.at hσ,zhV hck,this]
   ·simp -implicitDefEqProofs only [go_sem,c] at u
    simp -implicitDefEqProofs only [go_sem,ilt r,zm r,ro,B,u,c]
theorem zDm (hf : okF f) (I : ∀ b ∈ f.blocks,zjJ b) : ∀ (d k : Nat) (a2 a4 a5 a6 a7 a8 a9 m n o l p B A a20 v a22 a23 a24 a25 a26 a27 a28 a29 s q a32 a33 r a35 a36 j : V),f.blocks.length - k = d → k ≤ f.blocks.length →
  exec T zb1 ⟨[.one (.ptr 1 0 0 0),zAL g caps,a2,vI 0,a4,a5,a6,a7,a8,a9,m,n,o,l,vL (f.blocks.map rb),vI f.blocks.length,vI k,p,B,A,a20,v,a22,a23,a24,a25,a26,a27,a28,a29,s,q,a32,a33,r,a35,a36,j],σ,σ.length,σ.length⟩ =
   some (if zW ask (zaC f k (f.blocks.drop k)) = 0 then (.exit 0,⟨[vU,vU,vU,vI 0,vU,vU,vU,vU,vU,vU,vU,vU,vU,vU,vU,vU,vU,vU,vU,vU,vU,vU,vU,vU,vU,vU,vU,vU,vU,vU,vU,vU,vU,vU,vU,vU,vU,vU],σ,σ.length,σ.length⟩)
    else (.goto 0,⟨[vU,vU,vU,vI (zW ask (zaC f k (f.blocks.drop k))),vU,vU,vU,vU,vU,vU,vU,vU,vU,vU,vU,vU,vU,vU,vU,vU,vU,vU,vU,vU,vU,vU,vU,vU,vU,vU,vU,vU,vU,vU,vU,vU,vU,vU],σ,σ.length,σ.length⟩)):=by
 intro d;have i:=fun k => ze3 (yj σ.length k) caps hcaps;have h:=zfL hck
 induction d with
 | zero =>
   intro k a2 a4 a5 a6 a7 a8 a9 m n o l p B A a20 v a22 a23 a24 a25 a26 a27 a28 a29 s q a32 a33 r a35 a36 j N M;have a : k = f.blocks.length:=(by omega);subst a;rw [xl zb1 rfl,zer];simp -implicitDefEqProofs only [go_sem,ye,yb,zaC,zW]
 | succ d ih =>
   intro k a2 a4 a5 a6 a7 a8 a9 m n o l p B A a20 v a22 a23 a24 a25 a26 a27 a28 a29 s q a32 a33 r a35 a36 j N M;have a : k < f.blocks.length:=(by omega);have hd : f.blocks.drop k = f.blocks[k] :: f.blocks.drop (k + 1):=ya a;have hm:=yk a;have L:=hf.block _ hm;have w:=fun a2 a6 a7 a8 a9 m n o l p v a22 a23 a24 a25 a26 a27 a28 a29 s q a32 a33 r a35 a36 j => zDn f level x y z dd g caps σ hck hσ hcaps ask hask f.blocks[k] L (I _ hm) k f.blocks[k].phis.length 0 a2 a6 a7 a8 a9 m n o l p v a22 a23 a24 a25 a26 a27 a28 a29 s q a32 a33 r a35 a36 j (by omega) (by omega);have D:=fun a2 a6 a7 a8 a9 m n o l p B A a20 v a22 a23 a24 a25 a26 s q a32 a33 r a35 a36 j => zC2 f level x y z dd g caps σ hck hσ hcaps ask hask f.blocks[k] L (I _ hm) k f.blocks[k].ops.length 0 a2 a6 a7 a8 a9 m n o l p B A a20 v a22 a23 a24 a25 a26 s q a32 a33 r a35 a36 j (by omega) (by omega);rw [xl zb1 rfl,zer,hd,zaC,zgK,zg2,zgK,zgK];simp only [yi,yf] at w D
   by_cases c6 : zW ask (zam f.blocks[k].phis) = 0
   ·by_cases c8 : zW ask (zu k 0 f.blocks[k].ops) = 0
    ·have:=ih (k + 1) vU vU vU vU vU vU vU vU vU vU vU vU vU vU vU vU vU vU vU vU vU vU vU vU vU vU vU vU vU vU vU vU (by omega) (by omega)
     simp -implicitDefEqProofs only [go_sem,c6,c8] at this w D;have J:=fun u => hask [.cells 0 5 [zh f.blocks[k]],.mp [(0,V.one (.f (.lit (.int .i64 f.ret)))),(2,V.one (.f (.lit (.int .i64 1))))]] ⟨f.blocks[k].arg,(u,1),k,zmF⟩ (by simp -implicitDefEqProofs only [go_sem]);have C:=fun u => zi8 u;simp -implicitDefEqProofs only [go_sem,zmF] at J C
     by_cases H : f.blocks[k].kind = 0
     ·have t : (0 : Int) = f.blocks[k].kind:=H.symm
      by_cases G : f.ret = 0
      ·have eu : zbp f k f.blocks[k] = []:=by simp [zbp,ziy,H,G]
       simp -implicitDefEqProofs only [go_sem,ilt a,zm a,rb,w,D,c6,c8,eu,zW,h,hck,eq_true t,eq_true G,G,za a hf.blocks,i,Ok.up hσ,zhl hck,Ok.at hσ,zhV hck,hcaps,this]
      ·have eu : zbp f k f.blocks[k] = [⟨f.blocks[k].arg,(f.ret,1),k,1048576⟩]:=by simp [zbp,ziy,H,G]
       by_cases c : ask ⟨f.blocks[k].arg,(f.ret,1),k,1048576⟩ = 0
       ·simp -implicitDefEqProofs only [go_sem,ilt a,zm a,rb,w,D,c6,c8,eu,zW,h,hck,eq_true t,G,C,J,c,za a hf.blocks,i,Ok.up hσ,zhl hck,Ok.at hσ,zhV hck,hcaps,this]
       ·simp -implicitDefEqProofs only [go_sem,ilt a,zm a,rb,w,D,c6,c8,eu,zW,h,hck,eq_true t,G,C,J,c,i,Ok.up hσ,zhl hck,Ok.at hσ,zhV hck,hcaps]
     ·have t : ¬ (0 : Int) = f.blocks[k].kind:=fun e => H e.symm
      by_cases K : f.blocks[k].kind = 2
      ·have E : (2 : Int) = f.blocks[k].kind:=K.symm
       have eu : zbp f k f.blocks[k] = [⟨f.blocks[k].arg,(1,1),k,1048576⟩]:=by simp [zbp,ziy,H,K]
       by_cases c : ask ⟨f.blocks[k].arg,(1,1),k,1048576⟩ = 0
       ·simp -implicitDefEqProofs only [go_sem,ilt a,zm a,rb,w,D,c6,c8,eu,zW,h,hck,t,eq_true E,C,J,c,za a hf.blocks,i,Ok.up hσ,zhl hck,Ok.at hσ,zhV hck,hcaps,this]
       ·simp -implicitDefEqProofs only [go_sem,ilt a,zm a,rb,w,D,c6,c8,eu,zW,h,hck,t,eq_true E,C,J,c,i,Ok.up hσ,zhl hck,Ok.at hσ,zhV hck,hcaps]
      ·have E : ¬ (2 : Int) = f.blocks[k].kind:=fun e => K e.symm
       have eu : zbp f k f.blocks[k] = []:=(by simp [zbp,ziy,H,K]);simp -implicitDefEqProofs only [go_sem,ilt a,zm a,rb,w,D,c6,c8,eu,zW,h,hck,t,E,za a hf.blocks,i,Ok.up hσ,zhl hck,Ok.at hσ,zhV hck,hcaps,this]
    ·simp -implicitDefEqProofs only [go_sem,c6,c8] at w D
     simp -implicitDefEqProofs only [go_sem,ilt a,zm a,rb,w,D,c6,c8]
   ·simp -implicitDefEqProofs only [go_sem,c6] at w
    simp -implicitDefEqProofs only [go_sem,ilt a,zm a,rb,w,c6]
theorem zoF (hf : okF f) (a : ∀ b ∈ f.blocks,zjJ b) : call T 207 [.one (.ptr 1 0 0 0),zAL g caps] σ = some (vI (zW ask (zfe f)),σ):=by
 rw [ze (fn:=zcK) rfl];have h:=fun a2 a4 a5 a6 a7 a8 a9 j l m i n o k a20 r a22 a23 a24 a25 a26 a27 a28 a29 s p a32 a33 q a35 a36 d => zDm f level x y z dd g caps σ hck hσ hcaps ask hask hf a f.blocks.length 0 a2 a4 a5 a6 a7 a8 a9 j l m i n o k a20 r a22 a23 a24 a25 a26 a27 a28 a29 s p a32 a33 q a35 a36 d (by omega) (by omega);simp only [yi,yf] at h;have t:=zfL hck [];have e : zaC f 0 f.blocks = zfe f:=rfl;rw [e] at h
 by_cases c : zW ask (zfe f) = 0
 ·simp -implicitDefEqProofs only [go_sem,c] at h
  simp -implicitDefEqProofs only [go_sem,zcK,zdL,zeR,hck,h,c]
 ·simp -implicitDefEqProofs only [go_sem,c] at h
  simp -implicitDefEqProofs only [go_sem,zcK,zeR];rw [zdL];simp -implicitDefEqProofs only [go_sem,hck,h,zeR]
end
theorem zsr (o : POp) (f : zur o) : call T 128 [vOp o] [] = some (vSs (zaY o),[]):=by
 rw [ze (fn:=zbY) rfl];have a:=zlj o f;cases hm : zgx o
 ·simp -implicitDefEqProofs only [go_sem,hm] at a
  simp -implicitDefEqProofs only [go_sem,zbY,zaY,hm,a,Bool.false_eq_true,yr]
 simp -implicitDefEqProofs only [go_sem,hm] at a;have h:=fun a0 a2 a5 a6 a7 a8 a9 e i j c b g d k => zvi o f hm o.args.length 0 a0 a2 a5 a6 a7 a8 a9 e i j c b g d k (by omega) (by omega);rw [zwI hm f.1.1] at h;simp only [yf,List.range_zero,yr] at h;simp -implicitDefEqProofs only [go_sem] at h;simp -implicitDefEqProofs only [go_sem,zbY,zaY,hm,a,h]
def rU (u : Use) : List Fz:=[ei u.v,ei u.block,ei u.at',ei u.shape.1,ei u.shape.2]
abbrev vUs (l : List Use) : V:=.one (.f (.sl (l.map rU)))
attribute [go_sem] vUs
def zj (v : Int) : Nat → List Use → Int
 | _,[] => -1
 | k,u :: r => if u.v = v then (k : Int) else zj v (k + 1) r
theorem zw3 (l : List Use) (v : Int) (g : l.length ≤ 4294967296) : ∀ (d k : Nat) (a2 a4 a5 : V),l.length - k = d → k ≤ l.length →
  exec T zcr ⟨[vUs l,vI v,a2,vI k,a4,a5],[],0,0⟩ = some (if zj v k (l.drop k) = -1 then (.exit 0,⟨[vU,vU,vU,vU,vU,vU],[],0,0⟩) else (.ret,⟨[vU,vU,vI (zj v k (l.drop k)),vU,vU,vU],[],0,0⟩)):=by
 intro d
 induction d with
 | zero =>
   intro k a2 a4 a5 b f;have a : k = l.length:=(by omega);subst a;rw [xl zcr rfl,zej];simp -implicitDefEqProofs only [go_sem,ye,yc,yb,zj]
 | succ d ih =>
   intro k a2 a4 a5 b f;have a : k < l.length:=(by omega);have hd : l.drop k = l[k] :: l.drop (k + 1):=ya a;have:=ih (k + 1) vU vU vU (by omega) (by omega);rw [xl zcr rfl,zej,hd,zj];simp -implicitDefEqProofs only [go_sem] at this
   by_cases c : l[k].v = v
   ·have e : ¬ (k : Int) = -1:=by omega
    rw [if_pos c,if_neg e];simp -implicitDefEqProofs only [go_sem,ilt a,zm a,rU,yc,c,yo,yp]
   ·rw [if_neg c]
    simp -implicitDefEqProofs only [go_sem,ilt a,zm a,rU,yc,c,yo,yp,za a g,this]
theorem zhB (l : List Use) (v : Int) (a : l.length ≤ 4294967296) : call T 75 [vUs l,vI v] [] = some (vI (zj v 0 l),[]):=by
 rw [ze (fn:=zcJ) rfl];have h:=fun a2 a4 a5 => zw3 l v a l.length 0 a2 a4 a5 (by omega) (by omega);simp only [yf,yi] at h
 by_cases c : zj v 0 l = -1
 ·simp -implicitDefEqProofs only [go_sem,eq_true c] at h
  simp -implicitDefEqProofs only [go_sem,zcJ,h,c]
 ·simp -implicitDefEqProofs only [go_sem,c] at h
  simp -implicitDefEqProofs only [go_sem,zcJ,h]
def zaO : Nat → List Int → List Use
 | _,[] => []
 | k,b :: r => ⟨(k : Int) + 1,(b,1),-1,0⟩ :: zaO (k + 1) r
def zcZ (i : Int) (l : List PPhi) : List Use:=l.map fun p => ⟨p.dst,(p.bits,1),i,-1⟩
def zcX (i : Int) : Nat → List POp → List Use
 | _,[] => []
 | k,o :: r => if 0 < (zad o).1 then ⟨o.dst,zad o,i,(k : Int)⟩ :: zcX i (k + 1) r else zcX i (k + 1) r
def zX : Nat → List PBlock → List Use
 | _,[] => []
 | k,b :: r => zcZ k b.phis ++ (zcX k 0 b.ops ++ zX (k + 1) r)
def zL (f : PFunc) : List Use:=zaO 0 f.params ++ zX 0 f.blocks
theorem zgl : ∀ (l : List Int) (k : Nat),(zaO k l).length = l.length
 | [],_ => rfl
 | b :: r,k => by rw [zaO,yg,zgl r,yg]
theorem ziK (i : Int) : ∀ (l : List POp) (k : Nat),(zcX i k l).length ≤ l.length
 | [],_ => by simp [zcX]
 | o :: r,k => by
   have:=ziK i r (k + 1);rw [zcX];split <;> simp only [yg] <;> omega
section
variable (f : PFunc) (hf : okF f)
abbrev zf0 (n : Nat) (r : zd) : zd:=.cells 0 3 [zc4 f] :: .tok 5 [n] :: r
include hf
theorem zyx : ∀ (d k : Nat) (acc : List Use) (a0 a2 a5 a6 a7 a8 a9 c g h b a e : V),f.params.length - k = d → k ≤ f.params.length → acc.length + d ≤ 4294967296 →
  exec T zck ⟨[a0,.one (.ptr 0 0 0 0),a2,.one (.ap 1 0 (acc.map rU)),vI k,a5,a6,a7,a8,a9,c,g,h,b,a,e],zf0 f acc.length [],0,0⟩ =
   some (.exit 0,⟨[vU,.one (.ptr 0 0 0 0),vU,.one (.ap 1 0 ((acc ++ zaO k (f.params.drop k)).map rU)),vU,vU,vU,vU,vU,vU,vU,vU,vU,vU,vU,vU],zf0 f (acc ++ zaO k (f.params.drop k)).length [],0,0⟩):=by
 intro d
 induction d with
 | zero =>
   intro k acc a0 a2 a5 a6 a7 a8 a9 c g h b a e n m l;have i : k = f.params.length:=(by omega);subst i;rw [xl zck rfl,zem];simp -implicitDefEqProofs only [go_sem,zf0,ye,yc,yb,zaO,ym]
 | succ d ih =>
   intro k acc a0 a2 a5 a6 a7 a8 a9 c g h b a e n m l;have i : k < f.params.length:=(by omega);have hd : f.params.drop k = f.params[k] :: f.params.drop (k + 1):=ya i;have j : acc.length + 1 ≤ LIM:=(by unfold LIM; omega);have:=ih (k + 1) (acc ++ [⟨(k : Int) + 1,(f.params[k],1),-1,0⟩]) vU vU vU vU vU vU vU vU vU vU vU vU vU (by omega) (by omega) (by simp; omega);have e1 : ys rU acc ++ [[Fz.lit (Value.int .i64 ((k + 1 : Nat) : Int)),Fz.lit (Value.int .i64 (-1)),Fz.lit (Value.int .i64 0),Fz.lit (Value.int .i64 f.params[k]),Fz.lit (Value.int .i64 1)]] = ys rU (acc ++ [⟨(k : Int) + 1,(f.params[k],1),-1,0⟩]):=(by simp [rU]);rw [yh,yl] at this;rw [xl zck rfl,zem,hd,zaO];simp -implicitDefEqProofs only [go_sem,zf0,yd,yg,yn,yq] at this;simp -implicitDefEqProofs only [go_sem,zf0,ilt i,zm i,ri,yc,za i hf.params,j,e1,yd,yg,this]
theorem zyC (b : PBlock) (o : okB b) (i : Nat) : ∀ (d k : Nat) (acc : List Use) (a0 a2 a4 a8 a9 e h j c a g : V),b.phis.length - k = d → k ≤ b.phis.length → acc.length + d ≤ 4294967296 →
  exec T zb2 ⟨[a0,.one (.ptr 0 0 0 0),a2,.one (.ap 1 0 (acc.map rU)),a4,vI i,.one (.ptr 2 0 0 0),vI k,a8,a9,e,h,j,c,a,g],zf0 f acc.length [.cells 0 5 [zh b]],0,0⟩ =
   some (.exit 4,⟨[vU,.one (.ptr 0 0 0 0),vU,.one (.ap 1 0 ((acc ++ zcZ i (b.phis.drop k)).map rU)),vU,vI i,.one (.ptr 2 0 0 0),vU,vU,vU,vU,vU,vU,vU,vU,vU],zf0 f (acc ++ zcZ i (b.phis.drop k)).length [.cells 0 5 [zh b]],0,0⟩):=by
 intro d
 induction d with
 | zero =>
   intro k acc a0 a2 a4 a8 a9 e h j c a g q p n;have l : k = b.phis.length:=(by omega);subst l;rw [xl zb2 rfl,zd3];simp -implicitDefEqProofs only [go_sem,zf0,ye,yc,yb,zcZ,yr,ym]
 | succ d ih =>
   intro k acc a0 a2 a4 a8 a9 e h j c a g q p n;have l : k < b.phis.length:=(by omega);have hd : b.phis.drop k = b.phis[k] :: b.phis.drop (k + 1):=ya l;have m : acc.length + 1 ≤ LIM:=(by unfold LIM; omega);have:=ih (k + 1) (acc ++ [⟨b.phis[k].dst,(b.phis[k].bits,1),i,-1⟩]) vU vU vU vU vU vU vU vU vU vU vU (by omega) (by omega) (by simp; omega);have e1 : ys rU acc ++ [[Fz.lit (Value.int .i64 b.phis[k].dst),Fz.lit (Value.int .i64 (i : Int)),Fz.lit (Value.int .i64 (-1)),Fz.lit (Value.int .i64 b.phis[k].bits),Fz.lit (Value.int .i64 1)]] = ys rU (acc ++ [⟨b.phis[k].dst,(b.phis[k].bits,1),i,-1⟩]):=(by simp [rU]);have e2 : zcZ (i : Int) (b.phis[k] :: b.phis.drop (k + 1)) = ⟨b.phis[k].dst,(b.phis[k].bits,1),i,-1⟩ :: zcZ i (b.phis.drop (k + 1)):=rfl;rw [yh,yl] at this;rw [xl zb2 rfl,zd3,hd,e2];simp -implicitDefEqProofs only [go_sem,zf0,yd,yg,yn,yq] at this;simp -implicitDefEqProofs only [go_sem,zf0,ilt l,zm l,rp,yc,za l o.phis,m,e1,yd,yg,this]
theorem zAt (b : PBlock) (p : okB b) (i : Nat) : ∀ (d k : Nat) (acc : List Use) (a0 a2 a4 a7 a9 h l m g e j : V),b.ops.length - k = d → k ≤ b.ops.length → acc.length + d ≤ 4294967296 →
  exec T zct ⟨[a0,.one (.ptr 0 0 0 0),a2,.one (.ap 1 0 (acc.map rU)),a4,vI i,.one (.ptr 2 0 0 0),a7,vI k,a9,h,l,m,g,e,j],zf0 f acc.length [.cells 0 5 [zh b]],0,0⟩ =
   some (.exit 6,⟨[vU,.one (.ptr 0 0 0 0),vU,.one (.ap 1 0 ((acc ++ zcX i k (b.ops.drop k)).map rU)),vU,vI i,vU,vU,vU,vU,vU,vU,vU,vU,vU,vU],zf0 f (acc ++ zcX i k (b.ops.drop k)).length [.cells 0 5 [zh b]],0,0⟩):=by
 intro d
 induction d with
 | zero =>
   intro k acc a0 a2 a4 a7 a9 h l m g e j t s r;have a : k = b.ops.length:=(by omega);subst a;rw [xl zct rfl,zec];simp -implicitDefEqProofs only [go_sem,zf0,ye,yc,yb,zcX,ym]
 | succ d ih =>
   intro k acc a0 a2 a4 a7 a9 h l m g e j t s r;have a : k < b.ops.length:=(by omega);have hd : b.ops.drop k = b.ops[k] :: b.ops.drop (k + 1):=ya a;have n : acc.length + 1 ≤ LIM:=(by unfold LIM; omega);have o:=zr1 b.ops[k] (p.op _ (yk a));rw [xl zct rfl,zec,hd,zcX];simp -implicitDefEqProofs only [go_sem] at o
   by_cases c : 0 < (zad b.ops[k]).1
   ·have q : (zad b.ops[k]).1 > 0:=c
    have:=ih (k + 1) (acc ++ [⟨b.ops[k].dst,zad b.ops[k],i,(k : Int)⟩]) vU vU vU vU vU vU vU vU vU vU vU (by omega) (by omega) (by simp; omega);have e1 : ys rU acc ++ [[Fz.lit (Value.int .i64 b.ops[k].dst),Fz.lit (Value.int .i64 (i : Int)),Fz.lit (Value.int .i64 (k : Int)),Fz.lit (Value.int .i64 (zad b.ops[k]).1),Fz.lit (Value.int .i64 (zad b.ops[k]).2)]] = ys rU (acc ++ [⟨b.ops[k].dst,zad b.ops[k],i,(k : Int)⟩]):=(by simp [rU]);rw [yh,yl] at this;rw [if_pos c];simp -implicitDefEqProofs only [go_sem,zf0,yd,yg,yn,yq] at this;simp -implicitDefEqProofs only [go_sem,zf0,ilt a,zm a,ro,yc,o,eq_true q,za a p.ops,n,e1,yd,yg,this]
   ·have q : ¬ (zad b.ops[k]).1 > 0:=c
    have:=ih (k + 1) acc vU vU vU vU vU vU vU vU vU vU vU (by omega) (by omega) (by omega);rw [if_neg c];simp -implicitDefEqProofs only [go_sem,zf0] at this;simp -implicitDefEqProofs only [go_sem,zf0,ilt a,zm a,ro,yc,o,q,za a p.ops,this]
theorem zzE : ∀ (d k : Nat) (acc : List Use) (a0 a2 a4 a6 a7 a8 a9 e h i c a g : V),f.blocks.length - k = d → k ≤ f.blocks.length → acc.length + ((f.blocks.drop k).map fun b => b.phis.length + b.ops.length).sum ≤ 4294967296 →
  exec T zbU ⟨[a0,.one (.ptr 0 0 0 0),a2,.one (.ap 1 0 (acc.map rU)),a4,vI k,a6,a7,a8,a9,e,h,i,c,a,g],zf0 f acc.length [],0,0⟩ =
   some (.exit 2,⟨[vU,vU,vU,.one (.ap 1 0 ((acc ++ zX k (f.blocks.drop k)).map rU)),vU,vU,vU,vU,vU,vU,vU,vU,vU,vU,vU,vU],zf0 f (acc ++ zX k (f.blocks.drop k)).length [],0,0⟩):=by
 intro d
 induction d with
 | zero =>
   intro k acc a0 a2 a4 a6 a7 a8 a9 e h i c a g w v p;have j : k = f.blocks.length:=(by omega);subst j;rw [xl zbU rfl,zd5];simp -implicitDefEqProofs only [go_sem,zf0,ye,yc,yb,zX,ym]
 | succ d ih =>
   intro k acc a0 a2 a4 a6 a7 a8 a9 e h i c a g w v p;have j : k < f.blocks.length:=(by omega);have hd : f.blocks.drop k = f.blocks[k] :: f.blocks.drop (k + 1):=ya j;obtain ⟨b,m⟩ : ∃ b,b = f.blocks[k]:=⟨_,rfl⟩;have q:=hf.block _ (yk j);have t:=zm (r:=rb) j;rw [hd,List.map_cons,List.sum_cons] at p;rw [← m] at q t p;have u : (zcZ (k : Int) b.phis).length = b.phis.length:=(by simp [zcZ]);have lo:=ziK (k : Int) b.ops 0;have n:=fun a0 a2 a4 a8 a9 e h i c a g => zyC f hf b q k b.phis.length 0 acc a0 a2 a4 a8 a9 e h i c a g (by omega) (by omega) (by omega);have l:=fun a0 a2 a4 a7 a9 e h i c a g => zAt f hf b q k b.ops.length 0 (acc ++ zcZ k b.phis) a0 a2 a4 a7 a9 e h i c a g (by omega) (by omega) (by rw [yd,u]; omega);have:=ih (k + 1) (acc ++ zcZ k b.phis ++ zcX k 0 b.ops) vU vU vU vU vU vU vU vU vU vU vU vU vU (by omega) (by omega) (by rw [yd,yd,u]; omega);simp only [yf,yi] at n l;rw [xl zbU rfl,zd5,hd,zX,← m];rw [yh,yh] at this;rw [yh] at l;obtain ⟨a1,o⟩ : ∃ a1,a1 = acc ++ zcZ (k : Int) b.phis:=⟨_,rfl⟩;obtain ⟨a2,s⟩ : ∃ a2,a2 = acc ++ (zcZ (k : Int) b.phis ++ zcX (k : Int) 0 b.ops):=⟨_,rfl⟩;simp only [← o] at n l;simp only [← s] at l this;simp -implicitDefEqProofs only [go_sem,zf0] at this n l;simp -implicitDefEqProofs only [go_sem,zf0,ilt j,t,rb,yc,n,l,za j hf.blocks,this]
end
end AC

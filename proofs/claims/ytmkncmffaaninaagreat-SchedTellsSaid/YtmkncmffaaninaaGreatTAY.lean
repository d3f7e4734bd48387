/- A part of the proof of SchedTells. Conditions: none. -/
import Derived.Test.YtmkncmffaaninaaGreatTAX
import Derived.Test.YtmkncmffaaninaaGreatTAW
set_option linter.all false
open List renaming drop_eq_getElem_cons → ya,drop_length → yb,length_map → yc,length_append → yd,length_cons → yg,append_assoc → yh,drop_zero → yi,getElem_mem → yk,singleton_append → yl,append_nil → ym,length_nil → yn,map_nil → yr,map → ys
open Int renaming lt_irrefl → ye,natCast_zero → yf,natCast_nonneg → yo,toNat_natCast → yp
open Nat renaming le_add_right → yj,zero_add → yq
namespace AC
open Go Go.A Go.A.Lex
theorem zvc {t : List Int} {a : Int} (c : ¬ a < 0) (b : ¬ (t.length : Int) ≤ a) : (t.map ri)[a.toNat]? = some [.lit (.int .i64 (tr t a))]:=by
 have : a.toNat < t.length:=by omega
 rw [zj this];simp [tr,this,ri]
theorem zyv (t : List Int) (e : t.length ≤ 4294967296) : ∀ (d k : Nat) (a : Int) (a2 a3 a6 a7 a8 : V),t.length - k = d → k ≤ t.length →
  exec T zid ⟨[vIs t,vI a,a2,a3,vI t.length,vI k,a6,a7,a8],[],0,0⟩ =
   some (match zab t d k a with
    | none => (.exit 0,⟨[vU,vU,vU,vU,vU,vU,vU,vU,vU],[],0,0⟩)
    | some n => (.ret,⟨[vU,vU,vI n,vU,vU,vU,vU,vU,vU],[],0,0⟩)):=by
 intro d
 induction d with
 | zero =>
   intro k a a2 a3 a6 a7 a8 f c;have b : k = t.length:=(by omega);subst b;rw [xl zid rfl,zki];simp -implicitDefEqProofs only [go_sem,ye,zab]
 | succ d ih =>
   intro k a a2 a3 a6 a7 a8 f c;have b : k < t.length:=(by omega);rw [xl zid rfl,zki,zab]
   by_cases c1 : a < 0
   ·simp -implicitDefEqProofs only [go_sem,ilt b,c1]
   by_cases c2 : (t.length : Int) ≤ a
   ·simp -implicitDefEqProofs only [go_sem,ilt b,c1,c2]
   have c0 : 0 ≤ a:=(by omega);have c3 : a < (t.length : Int):=by omega
   by_cases c4 : tr t a = -1
   ·simp -implicitDefEqProofs only [go_sem,ilt b,c0,c1,c2,c3,zvc c1 c2,c4]
   ·have:=ih (k + 1) (tr t a) vU vU vU vU vU (by omega) (by omega)
    simp -implicitDefEqProofs only [go_sem] at this;simp -implicitDefEqProofs only [go_sem,ilt b,c0,c1,c2,c3,zvc c1 c2,c4,za b e];rw [this];rfl
@[go_sem] theorem zlH (t : List Int) (a : Int) (b : t.length ≤ 4294967296) : call T 250 [vIs t,vI a] [] = some (vI (zE t a),[]):=by
  rw [ze (fn:=zmD) rfl];have h:=fun a2 a3 a6 a7 a8 => zyv t b t.length 0 a a2 a3 a6 a7 a8 (by omega) (by omega);simp only [yf] at h;cases e : zab t t.length 0 a <;> simp -implicitDefEqProofs only [go_sem,e] at h <;> simp -implicitDefEqProofs only [go_sem,zmD,h,zE,e,Option.getD_none,Option.getD_some]
theorem zyZ (t : List Int) (c : t.length ≤ 4294967296) : ∀ (d k n : Nat) (a1 a3 a4 a8 a9 b : V),t.length - k = d → k ≤ t.length → n ≤ k →
  exec T zih ⟨[vIs t,a1,vI n,a3,a4,vIs t,vI t.length,vI k,a8,a9,b],[],0,0⟩ =
   some (match zaP t k n (t.drop k) with
    | none => (.ret,⟨[vU,vB false,vU,vU,vU,vU,vU,vU,vU,vU,vU],[],0,0⟩)
    | some n => (.exit 0,⟨[vU,vU,vI n,vU,vU,vU,vU,vU,vU,vU,vU],[],0,0⟩)):=by
 intro d
 induction d with
 | zero =>
   intro k n a1 a3 a4 a8 a9 b g i h;have a : k = t.length:=(by omega);subst a;rw [xl zih rfl,zkp];simp -implicitDefEqProofs only [go_sem,ye,yb,zaP]
 | succ d ih =>
   intro k n a1 a3 a4 a8 a9 b g i h;have a : k < t.length:=(by omega);have hd : t.drop k = t[k] :: t.drop (k + 1):=ya a;have e:=zlH t k c;have f:=za (k:=n) (n:=t.length) (by omega) c;rw [xl zih rfl,zkp,hd,zaP];simp -implicitDefEqProofs only [go_sem] at e
   by_cases c1 : t[k] = -2
   ·have:=ih (k + 1) n vU vU vU vU vU vU (by omega) (by omega) (by omega)
    simp -implicitDefEqProofs only [go_sem] at this;simp -implicitDefEqProofs only [go_sem,ilt a,zj a,ri,c1,za a c];rw [this]
    all_goals rfl
   ·by_cases c2 : t[k] = -1
    ·by_cases c3 : zE t k < 0
     ·simp -implicitDefEqProofs only [go_sem,ilt a,zj a,ri,c1,c2,e,c3,f]
     ·have:=ih (k + 1) (n + 1) vU vU vU vU vU vU (by omega) (by omega) (by omega)
      simp -implicitDefEqProofs only [go_sem] at this;simp -implicitDefEqProofs only [go_sem,ilt a,zj a,ri,c1,c2,e,c3,f,za a c];rw [this]
      all_goals rfl
    ·by_cases c3 : zE t k < 0
     ·simp -implicitDefEqProofs only [go_sem,ilt a,zj a,ri,c1,c2,e,c3]
     ·have:=ih (k + 1) n vU vU vU vU vU vU (by omega) (by omega) (by omega)
      simp -implicitDefEqProofs only [go_sem] at this;simp -implicitDefEqProofs only [go_sem,ilt a,zj a,ri,c1,c2,e,c3,za a c];rw [this]
      all_goals rfl
@[go_sem] theorem zy3 (t : List Int) (b : t.length ≤ 4294967296) : call T 248 [vIs t] [] = some (vB (zhh t),[]):=by
  rw [ze (fn:=zhP) rfl];have h:=fun a1 a3 a4 a8 a9 a => zyZ t b t.length 0 0 a1 a3 a4 a8 a9 a (by omega) (by omega) (by omega);simp only [yf,yi] at h
  cases e : zaP t 0 0 t with
  | none =>
    simp -implicitDefEqProofs only [go_sem,e] at h;simp -implicitDefEqProofs only [go_sem,zhP,h,zhh,e];rfl
  | some n =>
    simp -implicitDefEqProofs only [go_sem,e] at h
    by_cases c : n = 1
    ·subst c
     simp -implicitDefEqProofs only [go_sem,zhP,h,zhh,e];rfl
    ·have d : ¬ (n : Int) = 1:=by omega
     have c2 : (some n == some 1) = false:=(by simpa using c);simp -implicitDefEqProofs only [go_sem,zhP,h,zhh,e,d,c2]
theorem ztH (t : List Int) (a : Int) (b : t.length ≤ 4294967296) (r : zd) : call T 249 [vI a,.one (.ptr 0 0 0 0)] (.cells 0 1 [[.f (eI t)]] :: r) = some (vB (decide (zE t a < 0)),.cells 0 1 [[.f (eI t)]] :: r):=by
 rw [ze (fn:=znU) rfl];have h:=zlH t a b;simp -implicitDefEqProofs only [go_sem] at h;simp -implicitDefEqProofs only [go_sem,znU,h]
theorem zwe (t l : List Int) (e : t.length ≤ 4294967296) (b : l.length ≤ 4294967296) : call T 232 [vIs t,vIs l] [] = some (vB (inS t l),[]):=by
 rw [ze (fn:=ztO) rfl];have g:=zaz l (fun a => decide (zE t a < 0)) 249 [] [.ptr 0 0 0 0] [.cells 0 1 [[.f (eI t)]]] b (fun x _ => ztH t x e []);have d:=zy3 t e;simp -implicitDefEqProofs only [go_sem] at g;cases c : zhh t <;> simp -implicitDefEqProofs only [go_sem,c] at d <;> simp -implicitDefEqProofs only [go_sem,ztO,d,c,g,inS]
theorem zpa (t : List Int) (a b : Int) (c : t.length ≤ 4294967296) : call T 232 [vIs t,vL [[ei a],[ei b]]] [] = some (vB (inS t [a,b]),[]):=zwe t [a,b] c (by simp)
theorem zzK (t : List Int) (h : t.length ≤ 4294967296) (i : zhh t = true) : ∀ (d : Nat) (a b : Int) (a3 a4 a5 a6 : V),0 ≤ zE t a → 0 ≤ zE t b → zE t a + zE t b ≤ d →
  exec T zjh ⟨[vIs t,vI a,vI b,a3,a4,a5,a6],[],0,0⟩ = some (.exit 0,⟨[vU,vI (zjF t d a b),vU,vU,vU,vU,vU],[],0,0⟩):=by
 intro d
 induction d with
 | zero =>
   intro a b a3 a4 a5 a6 f g hd;have j:=zhR f;have m:=zhR g;have e : a = b:=zuF i j m (zhN (by omega)) (zhN (by omega));subst e;rw [xl zjh rfl,zmj];simp -implicitDefEqProofs only [go_sem,zjF]
 | succ d ih =>
   intro a b a3 a4 a5 a6 f g hd;obtain ⟨a0,a1⟩:=zhR f;obtain ⟨b0,b1⟩:=zhR g;have ca:=zlH t a h;have cb:=zlH t b h;simp -implicitDefEqProofs only [go_sem] at ca cb;rw [xl zjh rfl,zmj,zjF]
   by_cases c1 : a = b
   ·subst c1
    simp -implicitDefEqProofs only [go_sem]
   by_cases c2 : zE t b ≤ zE t a
   ·have c : tr t a ≠ -1:=fun e => by
     have k:=zlk a0 a1 e;exact c1 (zuF i ⟨a0,a1⟩ ⟨b0,b1⟩ e (zhN (by omega)))
    have l:=zf0 f c;have:=ih (tr t a) b vU vU vU vU (by omega) g (by omega);simp -implicitDefEqProofs only [go_sem] at this;simp -implicitDefEqProofs only [go_sem,c1,c2,ca,cb,a0,zvc (t:=t) (a:=a) (by omega) (by omega),this]
   ·have c : tr t b ≠ -1:=fun e => by
     have k:=zlk b0 b1 e;omega
    have l:=zf0 g c;have:=ih a (tr t b) vU vU vU vU f (by omega) (by omega);simp -implicitDefEqProofs only [go_sem] at this;simp -implicitDefEqProofs only [go_sem,c1,c2,ca,cb,b0,zvc (t:=t) (a:=b) (by omega) (by omega),this]
@[go_sem] theorem zAP (t : List Int) (a b : Int) (e : t.length ≤ 4294967296) : call T 233 [vIs t,vI a,vI b] [] = some (vI (zyw t a b),[]):=by
  rw [ze (fn:=zlu) rfl];have d:=zpa t a b e;cases c : inS t [a,b]
  ·simp -implicitDefEqProofs only [go_sem,c] at d
   simp -implicitDefEqProofs only [go_sem,zlu,d,c,zyw]
  ·obtain ⟨i,f,g⟩:=zFE c
   have h:=fun a3 a4 a5 a6 => zzK t e i (zE t a + zE t b).toNat a b a3 a4 a5 a6 f g (by omega);simp -implicitDefEqProofs only [go_sem,c] at d h;simp -implicitDefEqProofs only [go_sem,zlu,d,c,zyw,h]
@[go_sem] theorem zpR (t : List Int) (a b : Int) (d : t.length ≤ 4294967296) : call T 196 [vIs t,vI a,vI b] [] = some (vB (zlP t a b),[]):=by
  rw [ze (fn:=znW) rfl];have e:=zpa t a b d;have hm:=zAP t a b d;simp -implicitDefEqProofs only [go_sem] at hm;cases c : inS t [a,b] <;> simp -implicitDefEqProofs only [go_sem,c] at e <;> simp -implicitDefEqProofs only [go_sem,znW,e,hm,c,zlP]
structure Use where
 v : Int
 shape : Int × Int
 block : Int
 at' : Int
abbrev zm0 : Int:=1048576
def zaa (ask : Use → Int) : List Use → Int
 | [] => 0
 | u :: r => if ask u = 0 then zaa ask r else ask u
theorem zhA (ask : Use → Int) : ∀ (a b : List Use),zaa ask (a ++ b) = if zaa ask a = 0 then zaa ask b else zaa ask a
 | [],b => by simp [zaa]
 | u :: r,b => by
   simp only [List.cons_append,zaa,zhA ask r b]
   by_cases h : ask u = 0 <;> simp [h]
def zG (p : PPhi) (k : Nat) : List Int → List Use
 | [] => []
 | v :: r => ⟨v,(p.bits,1),p.src.getD k 0,zm0⟩ :: zG p (k + 1) r
def zgE (p : PPhi) : List Use:=zG p 0 p.args
def zM (o : POp) (i at' : Int) (k : Nat) : List (Int × Int) → List Use
 | [] => []
 | s :: r => ⟨o.args.getD k 0,s,i,at'⟩ :: zM o i at' (k + 1) r
def zkl (o : POp) (i at' : Int) : List Use:=zM o i at' 0 (zaN o)
def zo (i : Int) (k : Nat) : List POp → List Use
 | [] => []
 | o :: r => zkl o i (k : Int) ++ zo i (k + 1) r
def zar (l : List PPhi) : List Use:=l.flatMap zgE
def zjz (f : PFunc) (b : PBlock) : Int:=if b.kind = 0 then f.ret else if b.kind = 2 then 1 else 0
def zbE (f : PFunc) (i : Int) (b : PBlock) : List Use:=if zjz f b = 0 then [] else [⟨b.arg,(zjz f b,1),i,zm0⟩]
def zgT (f : PFunc) (i : Int) (b : PBlock) : List Use:=zar b.phis ++ (zo i 0 b.ops ++ zbE f i b)
def zas (f : PFunc) (k : Nat) : List PBlock → List Use
 | [] => []
 | b :: r => zgT f (k : Int) b ++ zas f (k + 1) r
def zfJ (f : PFunc) : List Use:=zas f 0 f.blocks
abbrev zze (f : PFunc) (level : Int) (x y z d : C) : Ob:=.cells 0 8 [[.f (eI f.params),.f (ei f.ret),.f (.sl (f.blocks.map rb)),.f (ei level),x,y,z,d]]
theorem zj3 (b : Int) : call T 205 [vI b] [] = some (.agg [.f (ei b),.f (ei 1)],[]):=by
 rw [ze (fn:=ziN) rfl];simp -implicitDefEqProofs only [go_sem,ziN]
section
variable (f : PFunc) (hf : okF f) (level : Int) (x y z dd : C) (g : Nat) (caps : List C) (σ : zd) (hck : σ[1]? = some (zze f level x y z dd)) (hσ : Ok σ) (hcaps : C.lts σ.length caps = true) (ask : Use → Int)
 (hask : ∀ (r : zd) (u : Use),Obs.lt (σ.length + r.length) r = true → call T g (vI u.v :: .agg [.f (ei u.shape.1),.f (ei u.shape.2)] :: vI u.block :: vI u.at' :: caps.map V.one) (σ ++ r) = some (vI (ask u),σ ++ r))
abbrev zCd : V:=.one (.fn g [] caps)
include hck hσ hcaps hask
theorem zE7 (b : PBlock) (p : PPhi) (D : okB b) (C : p ∈ b.phis) (hlen : p.args.length = p.src.length) (i y : Int) : ∀ (d k : Nat) (a2 a7 a8 a9 t m q n l s a25 a26 a27 a28 a29 j u a32 a33 r a35 a36 h : V),p.args.length - k = d → k ≤ p.args.length →
  exec T zcD ⟨[.one (.ptr 1 0 0 0),zCd g caps,a2,vI 0,vI i,.one (.ptr σ.length 0 0 0),.one (.ptr (σ.length + 1) 0 0 0),a7,a8,a9,t,m,q,n,vL (f.blocks.map rb),vI f.blocks.length,vI i,l,vL (b.phis.map rp),vI b.phis.length,vI y,s,vIs p.args,vI p.args.length,vI k,a25,a26,a27,a28,a29,j,u,a32,a33,r,a35,a36,h],σ ++ [.cells 0 5 [zg b],.cells 0 4 [zuh p]],σ.length,σ.length⟩ =
   some (if zaa ask (zG p k (p.args.drop k)) = 0 then (.exit 4,⟨[.one (.ptr 1 0 0 0),zCd g caps,vU,vI 0,vI i,.one (.ptr σ.length 0 0 0),vU,vU,vU,vU,vU,vU,vU,vU,vL (f.blocks.map rb),vI f.blocks.length,vI i,vU,vL (b.phis.map rp),vI b.phis.length,vI y,vU,vU,vU,vU,vU,vU,vU,vU,vU,vU,vU,vU,vU,vU,vU,vU,vU],σ ++ [.cells 0 5 [zg b],.cells 0 4 [zuh p]],σ.length,σ.length⟩)
    else (.goto 0,⟨[vU,vU,vU,vI (zaa ask (zG p k (p.args.drop k))),vU,vU,vU,vU,vU,vU,vU,vU,vU,vU,vU,vU,vU,vU,vU,vU,vU,vU,vU,vU,vU,vU,vU,vU,vU,vU,vU,vU,vU,vU,vU,vU,vU,vU],σ,σ.length,σ.length⟩)):=by
 intro d;have w:=fun k => zfI (yj σ.length k) caps hcaps;have z : p.args.length ≤ 4294967296:=(D.phi p C).2
 induction d with
 | zero =>
   intro k a2 a7 a8 a9 t m q n l s a25 a26 a27 a28 a29 j u a32 a33 r a35 a36 h A E;have a : k = p.args.length:=(by omega);subst a;rw [xl zcD rfl,zeJ];simp -implicitDefEqProofs only [go_sem,ye,yb,zG,zaa]
 | succ d ih =>
   intro k a2 a7 a8 a9 t m q n l s a25 a26 a27 a28 a29 j u a32 a33 r a35 a36 h A E;have a : k < p.args.length:=(by omega);have o : k < p.src.length:=(by omega);have hd : p.args.drop k = p.args[k] :: p.args.drop (k + 1):=ya a;have e:=zj3 p.bits;have x:=hask [.cells 0 5 [zg b],.cells 0 4 [zuh p]] ⟨p.args[k],(p.bits,1),p.src[k],zm0⟩ (by simp -implicitDefEqProofs only [go_sem]);have B : p.src.getD k 0 = p.src[k]:=(by simp [o]);rw [xl zcD rfl,zeJ,hd,zG,zaa,B];simp -implicitDefEqProofs only [go_sem,zm0] at e x
   by_cases c : ask ⟨p.args[k],(p.bits,1),p.src[k],zm0⟩ = 0
   ·have c' : ask { v:=p.args[k],shape:=(p.bits,1),block:=p.src[k],at':=1048576 } = 0:=c
    have:=ih (k + 1) vU vU vU vU vU vU vU vU vU vU vU vU vU vU vU vU vU vU vU vU vU vU vU (by omega) (by omega);simp -implicitDefEqProofs only [go_sem] at this;simp -implicitDefEqProofs only [go_sem,ilt a,zj a,zj o,ri,e,x,c',za a z,zm0,w,Ok.up hσ,zib hck,Ok.at hσ,ziE hck,this]
   ·have c' : ¬ ask { v:=p.args[k],shape:=(p.bits,1),block:=p.src[k],at':=1048576 } = 0:=c
    simp -implicitDefEqProofs only [go_sem,ilt a,zj a,zj o,ri,e,x,c',zm0,Ok.at hσ]
def zkq (b : PBlock) : Prop:=(∀ p ∈ b.phis,p.args.length = p.src.length) ∧ ∀ o ∈ b.ops,(zaN o).length ≤ o.args.length
theorem zFP (b : PBlock) (w : okB b) (v : zkq b) (i : Int) : ∀ (d k : Nat) (a2 a6 a7 a8 a9 q l n m j p a22 a23 a24 a25 a26 a27 a28 a29 h r a32 a33 o a35 a36 a : V),b.phis.length - k = d → k ≤ b.phis.length →
  exec T zcT ⟨[.one (.ptr 1 0 0 0),zCd g caps,a2,vI 0,vI i,.one (.ptr σ.length 0 0 0),a6,a7,a8,a9,q,l,n,m,vL (f.blocks.map rb),vI f.blocks.length,vI i,j,vL (b.phis.map rp),vI b.phis.length,vI k,p,a22,a23,a24,a25,a26,a27,a28,a29,h,r,a32,a33,o,a35,a36,a],σ ++ [.cells 0 5 [zg b]],σ.length,σ.length⟩ =
   some (if zaa ask (zar (b.phis.drop k)) = 0 then (.exit 2,⟨[.one (.ptr 1 0 0 0),zCd g caps,vU,vI 0,vI i,.one (.ptr σ.length 0 0 0),vU,vU,vU,vU,vU,vU,vU,vU,vL (f.blocks.map rb),vI f.blocks.length,vI i,vU,vU,vU,vU,vU,vU,vU,vU,vU,vU,vU,vU,vU,vU,vU,vU,vU,vU,vU,vU,vU],σ ++ [.cells 0 5 [zg b]],σ.length,σ.length⟩)
    else (.goto 0,⟨[vU,vU,vU,vI (zaa ask (zar (b.phis.drop k))),vU,vU,vU,vU,vU,vU,vU,vU,vU,vU,vU,vU,vU,vU,vU,vU,vU,vU,vU,vU,vU,vU,vU,vU,vU,vU,vU,vU,vU,vU,vU,vU,vU,vU],σ,σ.length,σ.length⟩)):=by
 intro d;have u:=fun k => zfI (yj σ.length k) caps hcaps
 induction d with
 | zero =>
   intro k a2 a6 a7 a8 a9 q l n m j p a22 a23 a24 a25 a26 a27 a28 a29 h r a32 a33 o a35 a36 a A B;have s : k = b.phis.length:=(by omega);subst s;rw [xl zcT rfl,zev];simp -implicitDefEqProofs only [go_sem,ye,yb,zar,List.flatMap_nil,zaa]
 | succ d ih =>
   intro k a2 a6 a7 a8 a9 q l n m j p a22 a23 a24 a25 a26 a27 a28 a29 h r a32 a33 o a35 a36 a A B;have s : k < b.phis.length:=(by omega);have hd : b.phis.drop k = b.phis[k] :: b.phis.drop (k + 1):=ya s;have hm:=yk s;have t:=fun a2 a7 a8 a9 q l n m j p a25 a26 a27 a28 a29 h r a32 a33 o a35 a36 a => zE7 f level x y z dd g caps σ hck hσ hcaps ask hask b b.phis[k] w hm (v.1 _ hm) i k b.phis[k].args.length 0 a2 a7 a8 a9 q l n m j p a25 a26 a27 a28 a29 h r a32 a33 o a35 a36 a (by omega) (by omega);have e : zar (b.phis[k] :: b.phis.drop (k + 1)) = zgE b.phis[k] ++ zar (b.phis.drop (k + 1)):=(by rw [zar,List.flatMap_cons]; rfl);rw [xl zcT rfl,zev,hd,e,zhA];simp only [yi,yf] at t;have e2 : zG b.phis[k] 0 b.phis[k].args = zgE b.phis[k]:=rfl;rw [e2] at t
   by_cases c : zaa ask (zgE b.phis[k]) = 0
   ·have:=ih (k + 1) vU vU vU vU vU vU vU vU vU vU vU vU vU vU vU vU vU vU vU vU vU vU vU vU vU vU vU (by omega) (by omega)
    simp -implicitDefEqProofs only [go_sem,c] at this t;simp -implicitDefEqProofs only [go_sem,ilt s,zj s,rp,t,c,za s w.phis,u,Ok.up hσ,zib hck,Ok.at hσ,ziE hck,this]
   ·simp -implicitDefEqProofs only [go_sem,c] at t
    simp -implicitDefEqProofs only [go_sem,ilt s,zj s,rp,t,c]
theorem zFl (b : PBlock) (o : POp) (B : okB b) (x : o ∈ b.ops) (hlen : (zaN o).length ≤ o.args.length) (i u : Int) : ∀ (d k : Nat) (a2 a6 a7 a8 n r p m e j a20 t a22 a23 a24 a25 a26 l s a35 a36 h : V),(zaN o).length - k = d → k ≤ (zaN o).length →
  exec T zcK ⟨[.one (.ptr 1 0 0 0),zCd g caps,a2,vI 0,vI i,.one (.ptr σ.length 0 0 0),a6,a7,a8,vI u,.one (.ptr (σ.length + 1) 0 0 0),n,r,p,vL (f.blocks.map rb),vI f.blocks.length,vI i,m,e,j,a20,t,a22,a23,a24,a25,a26,vL (b.ops.map ro),vI b.ops.length,vI u,l,vSs (zaN o),vI (zaN o).length,vI k,s,a35,a36,h],σ ++ [.cells 0 5 [zg b],.cells 0 6 [cOp o]],σ.length,σ.length⟩ =
   some (if zaa ask (zM o i u k ((zaN o).drop k)) = 0 then (.exit 8,⟨[.one (.ptr 1 0 0 0),zCd g caps,vU,vI 0,vI i,.one (.ptr σ.length 0 0 0),vU,vU,vU,vU,vU,vU,vU,vU,vL (f.blocks.map rb),vI f.blocks.length,vI i,vU,vU,vU,vU,vU,vU,vU,vU,vU,vU,vL (b.ops.map ro),vI b.ops.length,vI u,vU,vU,vU,vU,vU,vU,vU,vU],σ ++ [.cells 0 5 [zg b],.cells 0 6 [cOp o]],σ.length,σ.length⟩)
    else (.goto 0,⟨[vU,vU,vU,vI (zaa ask (zM o i u k ((zaN o).drop k))),vU,vU,vU,vU,vU,vU,vU,vU,vU,vU,vU,vU,vU,vU,vU,vU,vU,vU,vU,vU,vU,vU,vU,vU,vU,vU,vU,vU,vU,vU,vU,vU,vU,vU],σ,σ.length,σ.length⟩)):=by
 intro d;have v:=fun k => zfI (yj σ.length k) caps hcaps;have y : (zaN o).length ≤ 4294967296:=by have:=(B.op o x).2; omega
 induction d with
 | zero =>
   intro k a2 a6 a7 a8 n r p m e j a20 t a22 a23 a24 a25 a26 l s a35 a36 h z C;have a : k = (zaN o).length:=(by omega);subst a;rw [xl zcK rfl,ze3];simp -implicitDefEqProofs only [go_sem,ye,yb,zM,zaa]
 | succ d ih =>
   intro k a2 a6 a7 a8 n r p m e j a20 t a22 a23 a24 a25 a26 l s a35 a36 h z C;have a : k < (zaN o).length:=(by omega);have q : k < o.args.length:=(by omega);have hd : (zaN o).drop k = (zaN o)[k] :: (zaN o).drop (k + 1):=ya a;have w:=hask [.cells 0 5 [zg b],.cells 0 6 [cOp o],.cells 0 2 [[.f (ei (zaN o)[k].1),.f (ei (zaN o)[k].2)]]] ⟨o.args[k],(zaN o)[k],i,u⟩ (by simp -implicitDefEqProofs only [go_sem]);have A : o.args.getD k 0 = o.args[k]:=(by simp [q]);rw [xl zcK rfl,ze3,hd,zM,zaa,A];simp -implicitDefEqProofs only [go_sem] at w
   by_cases c : ask ⟨o.args[k],(zaN o)[k],i,u⟩ = 0
   ·have:=ih (k + 1) vU vU vU vU vU vU vU vU vU vU vU vU vU vU vU vU vU vU vU vU vU vU (by omega) (by omega)
    simp -implicitDefEqProofs only [go_sem,c] at this w;simp -implicitDefEqProofs only [go_sem,ilt a,zj a,zj q,ri,rs,w,c,za a y,v,Ok.up hσ,zib hck,Ok.at hσ,ziE hck,this]
   ·simp -implicitDefEqProofs only [go_sem,ilt a,zj a,zj q,ri,rs,w,c,Ok.at hσ]
theorem zFC (b : PBlock) (w : okB b) (B : zkq b) (i : Int) : ∀ (d k : Nat) (a2 a6 a7 a8 a9 s m o n l a h a20 q a22 a23 a24 a25 a26 j t a32 a33 p a35 a36 e : V),b.ops.length - k = d → k ≤ b.ops.length →
  exec T zcE ⟨[.one (.ptr 1 0 0 0),zCd g caps,a2,vI 0,vI i,.one (.ptr σ.length 0 0 0),a6,a7,a8,a9,s,m,o,n,vL (f.blocks.map rb),vI f.blocks.length,vI i,l,a,h,a20,q,a22,a23,a24,a25,a26,vL (b.ops.map ro),vI b.ops.length,vI k,j,t,a32,a33,p,a35,a36,e],σ ++ [.cells 0 5 [zg b]],σ.length,σ.length⟩ =
   some (if zaa ask (zo i k (b.ops.drop k)) = 0 then (.exit 6,⟨[.one (.ptr 1 0 0 0),zCd g caps,vU,vI 0,vI i,.one (.ptr σ.length 0 0 0),vU,vU,vU,vU,vU,vU,vU,vU,vL (f.blocks.map rb),vI f.blocks.length,vI i,vU,vU,vU,vU,vU,vU,vU,vU,vU,vU,vU,vU,vU,vU,vU,vU,vU,vU,vU,vU,vU],σ ++ [.cells 0 5 [zg b]],σ.length,σ.length⟩)
    else (.goto 0,⟨[vU,vU,vU,vI (zaa ask (zo i k (b.ops.drop k))),vU,vU,vU,vU,vU,vU,vU,vU,vU,vU,vU,vU,vU,vU,vU,vU,vU,vU,vU,vU,vU,vU,vU,vU,vU,vU,vU,vU,vU,vU,vU,vU,vU,vU],σ,σ.length,σ.length⟩)):=by
 intro d;have v:=fun k => zfI (yj σ.length k) caps hcaps
 induction d with
 | zero =>
   intro k a2 a6 a7 a8 a9 s m o n l a h a20 q a22 a23 a24 a25 a26 j t a32 a33 p a35 a36 e C D;have r : k = b.ops.length:=(by omega);subst r;rw [xl zcE rfl,ze6];simp -implicitDefEqProofs only [go_sem,ye,yb,zo,zaa]
 | succ d ih =>
   intro k a2 a6 a7 a8 a9 s m o n l a h a20 q a22 a23 a24 a25 a26 j t a32 a33 p a35 a36 e C D;have r : k < b.ops.length:=(by omega);have hd : b.ops.drop k = b.ops[k] :: b.ops.drop (k + 1):=ya r;have hm:=yk r;have A:=zqs b.ops[k] (w.op _ hm).1 (w.op _ hm).2;have u:=fun a2 a6 a7 a8 m o n l a h a20 q a22 a23 a24 a25 a26 j p a35 a36 e => zFl f level x y z dd g caps σ hck hσ hcaps ask hask b b.ops[k] w hm (B.2 _ hm) i k (zaN b.ops[k]).length 0 a2 a6 a7 a8 m o n l a h a20 q a22 a23 a24 a25 a26 j p a35 a36 e (by omega) (by omega);rw [xl zcE rfl,ze6,hd,zo,zhA];simp only [yi,yf] at u;have e2 : zM b.ops[k] i k 0 (zaN b.ops[k]) = zkl b.ops[k] i k:=rfl;rw [e2] at u;simp -implicitDefEqProofs only [go_sem] at A
   by_cases c : zaa ask (zkl b.ops[k] i k) = 0
   ·have:=ih (k + 1) vU vU vU vU vU vU vU vU vU vU vU vU vU vU vU vU vU vU vU vU vU vU vU vU vU vU vU (by omega) (by omega)
    simp -implicitDefEqProofs only [go_sem,c] at this u;simp -implicitDefEqProofs only [go_sem,ilt r,zj r,ro,A,u,c,za r w.ops,v,Ok.up hσ,zib hck,Ok.at hσ,ziE hck,this]
   ·simp -implicitDefEqProofs only [go_sem,c] at u
    simp -implicitDefEqProofs only [go_sem,ilt r,zj r,ro,A,u,c]
theorem zFj (hf : okF f) (I : ∀ b ∈ f.blocks,zkq b) : ∀ (d k : Nat) (a2 a4 a5 a6 a7 a8 a9 t n q p o A C a20 s a22 a23 a24 a25 a26 a27 a28 a29 m v a32 a33 r a35 a36 j : V),f.blocks.length - k = d → k ≤ f.blocks.length →
  exec T zcS ⟨[.one (.ptr 1 0 0 0),zCd g caps,a2,vI 0,a4,a5,a6,a7,a8,a9,t,n,q,p,vL (f.blocks.map rb),vI f.blocks.length,vI k,o,A,C,a20,s,a22,a23,a24,a25,a26,a27,a28,a29,m,v,a32,a33,r,a35,a36,j],σ,σ.length,σ.length⟩ =
   some (if zaa ask (zas f k (f.blocks.drop k)) = 0 then (.exit 0,⟨[vU,vU,vU,vI 0,vU,vU,vU,vU,vU,vU,vU,vU,vU,vU,vU,vU,vU,vU,vU,vU,vU,vU,vU,vU,vU,vU,vU,vU,vU,vU,vU,vU,vU,vU,vU,vU,vU,vU],σ,σ.length,σ.length⟩)
    else (.goto 0,⟨[vU,vU,vU,vI (zaa ask (zas f k (f.blocks.drop k))),vU,vU,vU,vU,vU,vU,vU,vU,vU,vU,vU,vU,vU,vU,vU,vU,vU,vU,vU,vU,vU,vU,vU,vU,vU,vU,vU,vU,vU,vU,vU,vU,vU,vU],σ,σ.length,σ.length⟩)):=by
 intro d;have h:=fun k => zfI (yj σ.length k) caps hcaps;have i:=zgB hck
 induction d with
 | zero =>
   intro k a2 a4 a5 a6 a7 a8 a9 t n q p o A C a20 s a22 a23 a24 a25 a26 a27 a28 a29 m v a32 a33 r a35 a36 j M N;have a : k = f.blocks.length:=(by omega);subst a;rw [xl zcS rfl,zeF];simp -implicitDefEqProofs only [go_sem,ye,yb,zas,zaa]
 | succ d ih =>
   intro k a2 a4 a5 a6 a7 a8 a9 t n q p o A C a20 s a22 a23 a24 a25 a26 a27 a28 a29 m v a32 a33 r a35 a36 j M N;have a : k < f.blocks.length:=(by omega);have hd : f.blocks.drop k = f.blocks[k] :: f.blocks.drop (k + 1):=ya a;have hm:=yk a;have L:=hf.block _ hm;have w:=fun a2 a6 a7 a8 a9 t n q p o s a22 a23 a24 a25 a26 a27 a28 a29 m v a32 a33 r a35 a36 j => zFP f level x y z dd g caps σ hck hσ hcaps ask hask f.blocks[k] L (I _ hm) k f.blocks[k].phis.length 0 a2 a6 a7 a8 a9 t n q p o s a22 a23 a24 a25 a26 a27 a28 a29 m v a32 a33 r a35 a36 j (by omega) (by omega);have D:=fun a2 a6 a7 a8 a9 t n q p o A C a20 s a22 a23 a24 a25 a26 m v a32 a33 r a35 a36 j => zFC f level x y z dd g caps σ hck hσ hcaps ask hask f.blocks[k] L (I _ hm) k f.blocks[k].ops.length 0 a2 a6 a7 a8 a9 t n q p o A C a20 s a22 a23 a24 a25 a26 m v a32 a33 r a35 a36 j (by omega) (by omega);rw [xl zcS rfl,zeF,hd,zas,zhA,zgT,zhA,zhA];simp only [yi,yf] at w D
   by_cases c6 : zaa ask (zar f.blocks[k].phis) = 0
   ·by_cases c8 : zaa ask (zo k 0 f.blocks[k].ops) = 0
    ·have:=ih (k + 1) vU vU vU vU vU vU vU vU vU vU vU vU vU vU vU vU vU vU vU vU vU vU vU vU vU vU vU vU vU vU vU vU (by omega) (by omega)
     simp -implicitDefEqProofs only [go_sem,c6,c8] at this w D;have J:=fun u => hask [.cells 0 5 [zg f.blocks[k]],.mp [(0,V.one (.f (.lit (.int .i64 f.ret)))),(2,V.one (.f (.lit (.int .i64 1))))]] ⟨f.blocks[k].arg,(u,1),k,zm0⟩ (by simp -implicitDefEqProofs only [go_sem]);have B:=fun u => zj3 u;simp -implicitDefEqProofs only [go_sem,zm0] at J B
     by_cases G : f.blocks[k].kind = 0
     ·have l : (0 : Int) = f.blocks[k].kind:=G.symm
      by_cases H : f.ret = 0
      ·have eu : zbE f k f.blocks[k] = []:=by simp [zbE,zjz,G,H]
       simp -implicitDefEqProofs only [go_sem,ilt a,zj a,rb,w,D,c6,c8,eu,zaa,i,hck,eq_true l,eq_true H,H,za a hf.blocks,h,Ok.up hσ,zib hck,Ok.at hσ,ziE hck,hcaps,this]
      ·have eu : zbE f k f.blocks[k] = [⟨f.blocks[k].arg,(f.ret,1),k,1048576⟩]:=by simp [zbE,zjz,G,H]
       by_cases c : ask ⟨f.blocks[k].arg,(f.ret,1),k,1048576⟩ = 0
       ·simp -implicitDefEqProofs only [go_sem,ilt a,zj a,rb,w,D,c6,c8,eu,zaa,i,hck,eq_true l,H,B,J,c,za a hf.blocks,h,Ok.up hσ,zib hck,Ok.at hσ,ziE hck,hcaps,this]
       ·simp -implicitDefEqProofs only [go_sem,ilt a,zj a,rb,w,D,c6,c8,eu,zaa,i,hck,eq_true l,H,B,J,c,h,Ok.up hσ,zib hck,Ok.at hσ,ziE hck,hcaps]
     ·have l : ¬ (0 : Int) = f.blocks[k].kind:=fun e => G e.symm
      by_cases K : f.blocks[k].kind = 2
      ·have E : (2 : Int) = f.blocks[k].kind:=K.symm
       have eu : zbE f k f.blocks[k] = [⟨f.blocks[k].arg,(1,1),k,1048576⟩]:=by simp [zbE,zjz,G,K]
       by_cases c : ask ⟨f.blocks[k].arg,(1,1),k,1048576⟩ = 0
       ·simp -implicitDefEqProofs only [go_sem,ilt a,zj a,rb,w,D,c6,c8,eu,zaa,i,hck,l,eq_true E,B,J,c,za a hf.blocks,h,Ok.up hσ,zib hck,Ok.at hσ,ziE hck,hcaps,this]
       ·simp -implicitDefEqProofs only [go_sem,ilt a,zj a,rb,w,D,c6,c8,eu,zaa,i,hck,l,eq_true E,B,J,c,h,Ok.up hσ,zib hck,Ok.at hσ,ziE hck,hcaps]
      ·have E : ¬ (2 : Int) = f.blocks[k].kind:=fun e => K e.symm
       have eu : zbE f k f.blocks[k] = []:=(by simp [zbE,zjz,G,K]);simp -implicitDefEqProofs only [go_sem,ilt a,zj a,rb,w,D,c6,c8,eu,zaa,i,hck,l,E,za a hf.blocks,h,Ok.up hσ,zib hck,Ok.at hσ,ziE hck,hcaps,this]
    ·simp -implicitDefEqProofs only [go_sem,c6,c8] at w D
     simp -implicitDefEqProofs only [go_sem,ilt a,zj a,rb,w,D,c6,c8]
   ·simp -implicitDefEqProofs only [go_sem,c6] at w
    simp -implicitDefEqProofs only [go_sem,ilt a,zj a,rb,w,c6]
theorem zqZ (hf : okF f) (k : ∀ b ∈ f.blocks,zkq b) : call T 207 [.one (.ptr 1 0 0 0),zCd g caps] σ = some (vI (zaa ask (zfJ f)),σ):=by
 rw [ze (fn:=zc5) rfl];have h:=fun a2 a4 a5 a6 a7 a8 a9 r m o n l a i a20 q a22 a23 a24 a25 a26 a27 a28 a29 j s a32 a33 p a35 a36 d => zFj f level x y z dd g caps σ hck hσ hcaps ask hask hf k f.blocks.length 0 a2 a4 a5 a6 a7 a8 a9 r m o n l a i a20 q a22 a23 a24 a25 a26 a27 a28 a29 j s a32 a33 p a35 a36 d (by omega) (by omega);simp only [yi,yf] at h;have t:=zgB hck [];have e : zas f 0 f.blocks = zfJ f:=rfl;rw [e] at h
 by_cases c : zaa ask (zfJ f) = 0
 ·simp -implicitDefEqProofs only [go_sem,c] at h
  simp -implicitDefEqProofs only [go_sem,zc5,zeg,zfl,hck,h,c]
 ·simp -implicitDefEqProofs only [go_sem,c] at h
  simp -implicitDefEqProofs only [go_sem,zc5,zfl];rw [zeg];simp -implicitDefEqProofs only [go_sem,hck,h,zfl]
end
theorem zto (o : POp) (c : zvE o) : call T 128 [vOp o] [] = some (vSs (zaN o),[]):=by
 rw [ze (fn:=zcG) rfl];have a:=zmn o c;cases hm : zgN o
 ·simp -implicitDefEqProofs only [go_sem,hm] at a
  simp -implicitDefEqProofs only [go_sem,zcG,zaN,hm,a,Bool.false_eq_true,yr]
 simp -implicitDefEqProofs only [go_sem,hm] at a;have h:=fun a0 a2 a5 a6 a7 a8 a9 k e j g d i b f => zv7 o c hm o.args.length 0 a0 a2 a5 a6 a7 a8 a9 k e j g d i b f (by omega) (by omega);rw [zyB hm c.1.1] at h;simp only [yf,List.range_zero,yr] at h;simp -implicitDefEqProofs only [go_sem] at h;simp -implicitDefEqProofs only [go_sem,zcG,zaN,hm,a,h]
def rU (u : Use) : List Fz:=[ei u.v,ei u.block,ei u.at',ei u.shape.1,ei u.shape.2]
abbrev vUs (l : List Use) : V:=.one (.f (.sl (l.map rU)))
attribute [go_sem] vUs
def zl (v : Int) : Nat → List Use → Int
 | _,[] => -1
 | k,u :: r => if u.v = v then (k : Int) else zl v (k + 1) r
theorem zyu (l : List Use) (v : Int) (f : l.length ≤ 4294967296) : ∀ (d k : Nat) (a2 a4 a5 : V),l.length - k = d → k ≤ l.length →
  exec T zcu ⟨[vUs l,vI v,a2,vI k,a4,a5],[],0,0⟩ = some (if zl v k (l.drop k) = -1 then (.exit 0,⟨[vU,vU,vU,vU,vU,vU],[],0,0⟩) else (.ret,⟨[vU,vU,vI (zl v k (l.drop k)),vU,vU,vU],[],0,0⟩)):=by
 intro d
 induction d with
 | zero =>
   intro k a2 a4 a5 g e;have a : k = l.length:=(by omega);subst a;rw [xl zcu rfl,zeQ];simp -implicitDefEqProofs only [go_sem,ye,yc,yb,zl]
 | succ d ih =>
   intro k a2 a4 a5 g e;have a : k < l.length:=(by omega);have hd : l.drop k = l[k] :: l.drop (k + 1):=ya a;have:=ih (k + 1) vU vU vU (by omega) (by omega);rw [xl zcu rfl,zeQ,hd,zl];simp -implicitDefEqProofs only [go_sem] at this
   by_cases c : l[k].v = v
   ·have b : ¬ (k : Int) = -1:=by omega
    rw [if_pos c,if_neg b];simp -implicitDefEqProofs only [go_sem,ilt a,zj a,rU,yc,c,yo,yp]
   ·rw [if_neg c]
    simp -implicitDefEqProofs only [go_sem,ilt a,zj a,rU,yc,c,yo,yp,za a f,this]
theorem zir (l : List Use) (v : Int) (a : l.length ≤ 4294967296) : call T 75 [vUs l,vI v] [] = some (vI (zl v 0 l),[]):=by
 rw [ze (fn:=zc8) rfl];have h:=fun a2 a4 a5 => zyu l v a l.length 0 a2 a4 a5 (by omega) (by omega);simp only [yf,yi] at h
 by_cases c : zl v 0 l = -1
 ·simp -implicitDefEqProofs only [go_sem,eq_true c] at h
  simp -implicitDefEqProofs only [go_sem,zc8,h,c]
 ·simp -implicitDefEqProofs only [go_sem,c] at h
  simp -implicitDefEqProofs only [go_sem,zc8,h]
def za0 : Nat → List Int → List Use
 | _,[] => []
 | k,b :: r => ⟨(k : Int) + 1,(b,1),-1,0⟩ :: za0 (k + 1) r
def zc0 (i : Int) (l : List PPhi) : List Use:=l.map fun p => ⟨p.dst,(p.bits,1),i,-1⟩
def zby (i : Int) : Nat → List POp → List Use
 | _,[] => []
 | k,o :: r => if 0 < (zT o).1 then ⟨o.dst,zT o,i,(k : Int)⟩ :: zby i (k + 1) r else zby i (k + 1) r
def zL : Nat → List PBlock → List Use
 | _,[] => []
 | k,b :: r => zc0 k b.phis ++ (zby k 0 b.ops ++ zL (k + 1) r)
def zN (f : PFunc) : List Use:=za0 0 f.params ++ zL 0 f.blocks
theorem zhg : ∀ (l : List Int) (k : Nat),(za0 k l).length = l.length
 | [],_ => rfl
 | b :: r,k => by rw [za0,yg,zhg r,yg]
theorem zjJ (i : Int) : ∀ (l : List POp) (k : Nat),(zby i k l).length ≤ l.length
 | [],_ => by simp [zby]
 | o :: r,k => by
   have:=zjJ i r (k + 1);rw [zby];split <;> simp only [yg] <;> omega
section
variable (f : PFunc) (hf : okF f)
abbrev zgK (n : Nat) (r : zd) : zd:=.cells 0 3 [z6 f] :: .tok 5 [n] :: r
include hf
theorem zAN : ∀ (d k : Nat) (acc : List Use) (a0 a2 a5 a6 a7 a8 a9 h b g c a e : V),f.params.length - k = d → k ≤ f.params.length → acc.length + d ≤ 4294967296 →
  exec T zcd ⟨[a0,.one (.ptr 0 0 0 0),a2,.one (.ap 1 0 (acc.map rU)),vI k,a5,a6,a7,a8,a9,h,b,g,c,a,e],zgK f acc.length [],0,0⟩ =
   some (.exit 0,⟨[vU,.one (.ptr 0 0 0 0),vU,.one (.ap 1 0 ((acc ++ za0 k (f.params.drop k)).map rU)),vU,vU,vU,vU,vU,vU,vU,vU,vU,vU,vU,vU],zgK f (acc ++ za0 k (f.params.drop k)).length [],0,0⟩):=by
 intro d
 induction d with
 | zero =>
   intro k acc a0 a2 a5 a6 a7 a8 a9 h b g c a e l n m;have i : k = f.params.length:=(by omega);subst i;rw [xl zcd rfl,zeN];simp -implicitDefEqProofs only [go_sem,zgK,ye,yc,yb,za0,ym]
 | succ d ih =>
   intro k acc a0 a2 a5 a6 a7 a8 a9 h b g c a e l n m;have i : k < f.params.length:=(by omega);have hd : f.params.drop k = f.params[k] :: f.params.drop (k + 1):=ya i;have j : acc.length + 1 ≤ LIM:=(by unfold LIM; omega);have:=ih (k + 1) (acc ++ [⟨(k : Int) + 1,(f.params[k],1),-1,0⟩]) vU vU vU vU vU vU vU vU vU vU vU vU vU (by omega) (by omega) (by simp; omega);have e1 : ys rU acc ++ [[Fz.lit (Value.int .i64 ((k + 1 : Nat) : Int)),Fz.lit (Value.int .i64 (-1)),Fz.lit (Value.int .i64 0),Fz.lit (Value.int .i64 f.params[k]),Fz.lit (Value.int .i64 1)]] = ys rU (acc ++ [⟨(k : Int) + 1,(f.params[k],1),-1,0⟩]):=(by simp [rU]);rw [yh,yl] at this;rw [xl zcd rfl,zeN,hd,za0];simp -implicitDefEqProofs only [go_sem,zgK,yd,yg,yn,yq] at this;simp -implicitDefEqProofs only [go_sem,zgK,ilt i,zj i,ri,yc,za i hf.params,j,e1,yd,yg,this]
theorem zzC (b : PBlock) (p : okB b) (i : Nat) : ∀ (d k : Nat) (acc : List Use) (a0 a2 a4 a8 a9 j c h e a g : V),b.phis.length - k = d → k ≤ b.phis.length → acc.length + d ≤ 4294967296 →
  exec T zcc ⟨[a0,.one (.ptr 0 0 0 0),a2,.one (.ap 1 0 (acc.map rU)),a4,vI i,.one (.ptr 2 0 0 0),vI k,a8,a9,j,c,h,e,a,g],zgK f acc.length [.cells 0 5 [zg b]],0,0⟩ =
   some (.exit 4,⟨[vU,.one (.ptr 0 0 0 0),vU,.one (.ap 1 0 ((acc ++ zc0 i (b.phis.drop k)).map rU)),vU,vI i,.one (.ptr 2 0 0 0),vU,vU,vU,vU,vU,vU,vU,vU,vU],zgK f (acc ++ zc0 i (b.phis.drop k)).length [.cells 0 5 [zg b]],0,0⟩):=by
 intro d
 induction d with
 | zero =>
   intro k acc a0 a2 a4 a8 a9 j c h e a g n q o;have l : k = b.phis.length:=(by omega);subst l;rw [xl zcc rfl,zeZ];simp -implicitDefEqProofs only [go_sem,zgK,ye,yc,yb,zc0,yr,ym]
 | succ d ih =>
   intro k acc a0 a2 a4 a8 a9 j c h e a g n q o;have l : k < b.phis.length:=(by omega);have hd : b.phis.drop k = b.phis[k] :: b.phis.drop (k + 1):=ya l;have m : acc.length + 1 ≤ LIM:=(by unfold LIM; omega);have:=ih (k + 1) (acc ++ [⟨b.phis[k].dst,(b.phis[k].bits,1),i,-1⟩]) vU vU vU vU vU vU vU vU vU vU vU (by omega) (by omega) (by simp; omega);have e1 : ys rU acc ++ [[Fz.lit (Value.int .i64 b.phis[k].dst),Fz.lit (Value.int .i64 (i : Int)),Fz.lit (Value.int .i64 (-1)),Fz.lit (Value.int .i64 b.phis[k].bits),Fz.lit (Value.int .i64 1)]] = ys rU (acc ++ [⟨b.phis[k].dst,(b.phis[k].bits,1),i,-1⟩]):=(by simp [rU]);have e2 : zc0 (i : Int) (b.phis[k] :: b.phis.drop (k + 1)) = ⟨b.phis[k].dst,(b.phis[k].bits,1),i,-1⟩ :: zc0 i (b.phis.drop (k + 1)):=rfl;rw [yh,yl] at this;rw [xl zcc rfl,zeZ,hd,e2];simp -implicitDefEqProofs only [go_sem,zgK,yd,yg,yn,yq] at this;simp -implicitDefEqProofs only [go_sem,zgK,ilt l,zj l,rp,yc,za l p.phis,m,e1,yd,yg,this]
theorem zAu (b : PBlock) (p : okB b) (i : Nat) : ∀ (d k : Nat) (acc : List Use) (a0 a2 a4 a7 a9 m g l h e j : V),b.ops.length - k = d → k ≤ b.ops.length → acc.length + d ≤ 4294967296 →
  exec T zcp ⟨[a0,.one (.ptr 0 0 0 0),a2,.one (.ap 1 0 (acc.map rU)),a4,vI i,.one (.ptr 2 0 0 0),a7,vI k,a9,m,g,l,h,e,j],zgK f acc.length [.cells 0 5 [zg b]],0,0⟩ =
   some (.exit 6,⟨[vU,.one (.ptr 0 0 0 0),vU,.one (.ap 1 0 ((acc ++ zby i k (b.ops.drop k)).map rU)),vU,vI i,vU,vU,vU,vU,vU,vU,vU,vU,vU,vU],zgK f (acc ++ zby i k (b.ops.drop k)).length [.cells 0 5 [zg b]],0,0⟩):=by
 intro d
 induction d with
 | zero =>
   intro k acc a0 a2 a4 a7 a9 m g l h e j r t s;have a : k = b.ops.length:=(by omega);subst a;rw [xl zcp rfl,zeB];simp -implicitDefEqProofs only [go_sem,zgK,ye,yc,yb,zby,ym]
 | succ d ih =>
   intro k acc a0 a2 a4 a7 a9 m g l h e j r t s;have a : k < b.ops.length:=(by omega);have hd : b.ops.drop k = b.ops[k] :: b.ops.drop (k + 1):=ya a;have n : acc.length + 1 ≤ LIM:=(by unfold LIM; omega);have o:=zsV b.ops[k] (p.op _ (yk a));rw [xl zcp rfl,zeB,hd,zby];simp -implicitDefEqProofs only [go_sem] at o
   by_cases c : 0 < (zT b.ops[k]).1
   ·have q : (zT b.ops[k]).1 > 0:=c
    have:=ih (k + 1) (acc ++ [⟨b.ops[k].dst,zT b.ops[k],i,(k : Int)⟩]) vU vU vU vU vU vU vU vU vU vU vU (by omega) (by omega) (by simp; omega);have e1 : ys rU acc ++ [[Fz.lit (Value.int .i64 b.ops[k].dst),Fz.lit (Value.int .i64 (i : Int)),Fz.lit (Value.int .i64 (k : Int)),Fz.lit (Value.int .i64 (zT b.ops[k]).1),Fz.lit (Value.int .i64 (zT b.ops[k]).2)]] = ys rU (acc ++ [⟨b.ops[k].dst,zT b.ops[k],i,(k : Int)⟩]):=(by simp [rU]);rw [yh,yl] at this;rw [if_pos c];simp -implicitDefEqProofs only [go_sem,zgK,yd,yg,yn,yq] at this;simp -implicitDefEqProofs only [go_sem,zgK,ilt a,zj a,ro,yc,o,eq_true q,za a p.ops,n,e1,yd,yg,this]
   ·have q : ¬ (zT b.ops[k]).1 > 0:=c
    have:=ih (k + 1) acc vU vU vU vU vU vU vU vU vU vU vU (by omega) (by omega) (by omega);rw [if_neg c];simp -implicitDefEqProofs only [go_sem,zgK] at this;simp -implicitDefEqProofs only [go_sem,zgK,ilt a,zj a,ro,yc,o,q,za a p.ops,this]
theorem zz6 : ∀ (d k : Nat) (acc : List Use) (a0 a2 a4 a6 a7 a8 a9 i c h e a g : V),f.blocks.length - k = d → k ≤ f.blocks.length → acc.length + ((f.blocks.drop k).map fun b => b.phis.length + b.ops.length).sum ≤ 4294967296 →
  exec T zcP ⟨[a0,.one (.ptr 0 0 0 0),a2,.one (.ap 1 0 (acc.map rU)),a4,vI k,a6,a7,a8,a9,i,c,h,e,a,g],zgK f acc.length [],0,0⟩ =
   some (.exit 2,⟨[vU,vU,vU,.one (.ap 1 0 ((acc ++ zL k (f.blocks.drop k)).map rU)),vU,vU,vU,vU,vU,vU,vU,vU,vU,vU,vU,vU],zgK f (acc ++ zL k (f.blocks.drop k)).length [],0,0⟩):=by
 intro d
 induction d with
 | zero =>
   intro k acc a0 a2 a4 a6 a7 a8 a9 i c h e a g v w p;have j : k = f.blocks.length:=(by omega);subst j;rw [xl zcP rfl,zeA];simp -implicitDefEqProofs only [go_sem,zgK,ye,yc,yb,zL,ym]
 | succ d ih =>
   intro k acc a0 a2 a4 a6 a7 a8 a9 i c h e a g v w p;have j : k < f.blocks.length:=(by omega);have hd : f.blocks.drop k = f.blocks[k] :: f.blocks.drop (k + 1):=ya j;obtain ⟨b,m⟩ : ∃ b,b = f.blocks[k]:=⟨_,rfl⟩;have q:=hf.block _ (yk j);have u:=zj (r:=rb) j;rw [hd,List.map_cons,List.sum_cons] at p;rw [← m] at q u p;have t : (zc0 (k : Int) b.phis).length = b.phis.length:=(by simp [zc0]);have lo:=zjJ (k : Int) b.ops 0;have n:=fun a0 a2 a4 a8 a9 i c h e a g => zzC f hf b q k b.phis.length 0 acc a0 a2 a4 a8 a9 i c h e a g (by omega) (by omega) (by omega);have l:=fun a0 a2 a4 a7 a9 i c h e a g => zAu f hf b q k b.ops.length 0 (acc ++ zc0 k b.phis) a0 a2 a4 a7 a9 i c h e a g (by omega) (by omega) (by rw [yd,t]; omega);have:=ih (k + 1) (acc ++ zc0 k b.phis ++ zby k 0 b.ops) vU vU vU vU vU vU vU vU vU vU vU vU vU (by omega) (by omega) (by rw [yd,yd,t]; omega);simp only [yf,yi] at n l;rw [xl zcP rfl,zeA,hd,zL,← m];rw [yh,yh] at this;rw [yh] at l;obtain ⟨a1,o⟩ : ∃ a1,a1 = acc ++ zc0 (k : Int) b.phis:=⟨_,rfl⟩;obtain ⟨a2,s⟩ : ∃ a2,a2 = acc ++ (zc0 (k : Int) b.phis ++ zby (k : Int) 0 b.ops):=⟨_,rfl⟩;simp only [← o] at n l;simp only [← s] at l this;simp -implicitDefEqProofs only [go_sem,zgK] at this n l;simp -implicitDefEqProofs only [go_sem,zgK,ilt j,u,rb,yc,n,l,za j hf.blocks,this]
end
end AC

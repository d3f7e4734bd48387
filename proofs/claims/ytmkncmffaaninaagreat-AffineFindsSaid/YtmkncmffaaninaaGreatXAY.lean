/- A part of the proof of AffineFinds. Conditions: none. -/
import Derived.Test.YtmkncmffaaninaaGreatXAX
import Derived.Test.YtmkncmffaaninaaGreatXAW
set_option linter.all false
open List renaming drop_eq_getElem_cons → ya,drop_length → yb,length_map → yc,length_append → yd,length_cons → yg,append_assoc → yh,drop_zero → yi,getElem_mem → yk,singleton_append → yl,append_nil → ym,length_nil → yn,map_nil → yr,map → ys
open Int renaming lt_irrefl → ye,natCast_zero → yf,natCast_nonneg → yo,toNat_natCast → yp
open Nat renaming le_add_right → yj,zero_add → yq
namespace AC
open Go Go.A Go.A.Lex
theorem zvt {t : List Int} {a : Int} (b : ¬ a < 0) (c : ¬ (t.length : Int) ≤ a) : (t.map ri)[a.toNat]? = some [.lit (.int .i64 (tr t a))]:=by
 have : a.toNat < t.length:=by omega
 rw [zy this];simp [tr,this,ri]
theorem zzx (t : List Int) (e : t.length ≤ 4294967296) : ∀ (d k : Nat) (a : Int) (a2 a3 a6 a7 a8 : V),t.length - k = d → k ≤ t.length →
  exec T ziq ⟨[vIs t,vI a,a2,a3,vI t.length,vI k,a6,a7,a8],[],0,0⟩ =
   some (match zaj t d k a with
    | none => (.exit 0,⟨[vU,vU,vU,vU,vU,vU,vU,vU,vU],[],0,0⟩)
    | some n => (.ret,⟨[vU,vU,vI n,vU,vU,vU,vU,vU,vU],[],0,0⟩)):=by
 intro d
 induction d with
 | zero =>
   intro k a a2 a3 a6 a7 a8 c f;have b : k = t.length:=(by omega);subst b;rw [xl ziq rfl,zlc];simp -implicitDefEqProofs only [go_sem,ye,zaj]
 | succ d ih =>
   intro k a a2 a3 a6 a7 a8 c f;have b : k < t.length:=(by omega);rw [xl ziq rfl,zlc,zaj]
   by_cases c1 : a < 0
   ·simp -implicitDefEqProofs only [go_sem,ilt b,c1]
   by_cases c2 : (t.length : Int) ≤ a
   ·simp -implicitDefEqProofs only [go_sem,ilt b,c1,c2]
   have c0 : 0 ≤ a:=(by omega);have c3 : a < (t.length : Int):=by omega
   by_cases c4 : tr t a = -1
   ·simp -implicitDefEqProofs only [go_sem,ilt b,c0,c1,c2,c3,zvt c1 c2,c4]
   ·have:=ih (k + 1) (tr t a) vU vU vU vU vU (by omega) (by omega)
    simp -implicitDefEqProofs only [go_sem] at this;simp -implicitDefEqProofs only [go_sem,ilt b,c0,c1,c2,c3,zvt c1 c2,c4,za b e];rw [this];rfl
@[go_sem] theorem zll (t : List Int) (a : Int) (b : t.length ≤ 4294967296) : call T 250 [vIs t,vI a] [] = some (vI (zL t a),[]):=by
  rw [ze (fn:=zmp) rfl];have h:=fun a2 a3 a6 a7 a8 => zzx t b t.length 0 a a2 a3 a6 a7 a8 (by omega) (by omega);simp only [yf] at h;cases e : zaj t t.length 0 a <;> simp -implicitDefEqProofs only [go_sem,e] at h <;> simp -implicitDefEqProofs only [go_sem,zmp,h,zL,e,Option.getD_none,Option.getD_some]
theorem zyF (t : List Int) (e : t.length ≤ 4294967296) : ∀ (d k n : Nat) (a1 a3 a4 a8 a9 b : V),t.length - k = d → k ≤ t.length → n ≤ k →
  exec T ziu ⟨[vIs t,a1,vI n,a3,a4,vIs t,vI t.length,vI k,a8,a9,b],[],0,0⟩ =
   some (match zaY t k n (t.drop k) with
    | none => (.ret,⟨[vU,vB false,vU,vU,vU,vU,vU,vU,vU,vU,vU],[],0,0⟩)
    | some n => (.exit 0,⟨[vU,vU,vI n,vU,vU,vU,vU,vU,vU,vU,vU],[],0,0⟩)):=by
 intro d
 induction d with
 | zero =>
   intro k n a1 a3 a4 a8 a9 b h i g;have a : k = t.length:=(by omega);subst a;rw [xl ziu rfl,zki];simp -implicitDefEqProofs only [go_sem,ye,yb,zaY]
 | succ d ih =>
   intro k n a1 a3 a4 a8 a9 b h i g;have a : k < t.length:=(by omega);have hd : t.drop k = t[k] :: t.drop (k + 1):=ya a;have c:=zll t k e;have f:=za (k:=n) (n:=t.length) (by omega) e;rw [xl ziu rfl,zki,hd,zaY];simp -implicitDefEqProofs only [go_sem] at c
   by_cases c1 : t[k] = -2
   ·have:=ih (k + 1) n vU vU vU vU vU vU (by omega) (by omega) (by omega)
    simp -implicitDefEqProofs only [go_sem] at this;simp -implicitDefEqProofs only [go_sem,ilt a,zy a,ri,c1,za a e];rw [this]
    all_goals rfl
   ·by_cases c2 : t[k] = -1
    ·by_cases c3 : zL t k < 0
     ·simp -implicitDefEqProofs only [go_sem,ilt a,zy a,ri,c1,c2,c,c3,f]
     ·have:=ih (k + 1) (n + 1) vU vU vU vU vU vU (by omega) (by omega) (by omega)
      simp -implicitDefEqProofs only [go_sem] at this;simp -implicitDefEqProofs only [go_sem,ilt a,zy a,ri,c1,c2,c,c3,f,za a e];rw [this]
      all_goals rfl
    ·by_cases c3 : zL t k < 0
     ·simp -implicitDefEqProofs only [go_sem,ilt a,zy a,ri,c1,c2,c,c3]
     ·have:=ih (k + 1) n vU vU vU vU vU vU (by omega) (by omega) (by omega)
      simp -implicitDefEqProofs only [go_sem] at this;simp -implicitDefEqProofs only [go_sem,ilt a,zy a,ri,c1,c2,c,c3,za a e];rw [this]
      all_goals rfl
@[go_sem] theorem zzb (t : List Int) (d : t.length ≤ 4294967296) : call T 248 [vIs t] [] = some (vB (zhj t),[]):=by
  rw [ze (fn:=zhY) rfl];have h:=fun a1 a3 a4 a8 a9 a => zyF t d t.length 0 0 a1 a3 a4 a8 a9 a (by omega) (by omega) (by omega);simp only [yf,yi] at h
  cases e : zaY t 0 0 t with
  | none =>
    simp -implicitDefEqProofs only [go_sem,e] at h;simp -implicitDefEqProofs only [go_sem,zhY,h,zhj,e];rfl
  | some n =>
    simp -implicitDefEqProofs only [go_sem,e] at h
    by_cases c : n = 1
    ·subst c
     simp -implicitDefEqProofs only [go_sem,zhY,h,zhj,e];rfl
    ·have b : ¬ (n : Int) = 1:=by omega
     have c2 : (some n == some 1) = false:=(by simpa using c);simp -implicitDefEqProofs only [go_sem,zhY,h,zhj,e,b,c2]
theorem zs9 (t : List Int) (a : Int) (b : t.length ≤ 4294967296) (r : zd) : call T 249 [vI a,.one (.ptr 0 0 0 0)] (.cells 0 1 [[.f (eI t)]] :: r) = some (vB (decide (zL t a < 0)),.cells 0 1 [[.f (eI t)]] :: r):=by
 rw [ze (fn:=zom) rfl];have h:=zll t a b;simp -implicitDefEqProofs only [go_sem] at h;simp -implicitDefEqProofs only [go_sem,zom,h]
theorem zwC (t l : List Int) (e : t.length ≤ 4294967296) (b : l.length ≤ 4294967296) : call T 232 [vIs t,vIs l] [] = some (vB (inS t l),[]):=by
 rw [ze (fn:=ztT) rfl];have d:=zba l (fun a => decide (zL t a < 0)) 249 [] [.ptr 0 0 0 0] [.cells 0 1 [[.f (eI t)]]] b (fun x _ => zs9 t x e []);have g:=zzb t e;simp -implicitDefEqProofs only [go_sem] at d;cases c : zhj t <;> simp -implicitDefEqProofs only [go_sem,c] at g <;> simp -implicitDefEqProofs only [go_sem,ztT,g,c,d,inS]
theorem zo6 (t : List Int) (a b : Int) (c : t.length ≤ 4294967296) : call T 232 [vIs t,vL [[ei a],[ei b]]] [] = some (vB (inS t [a,b]),[]):=zwC t [a,b] c (by simp)
theorem zC7 (t : List Int) (i : t.length ≤ 4294967296) (h : zhj t = true) : ∀ (d : Nat) (a b : Int) (a3 a4 a5 a6 : V),0 ≤ zL t a → 0 ≤ zL t b → zL t a + zL t b ≤ d →
  exec T zjq ⟨[vIs t,vI a,vI b,a3,a4,a5,a6],[],0,0⟩ = some (.exit 0,⟨[vU,vI (zjt t d a b),vU,vU,vU,vU,vU],[],0,0⟩):=by
 intro d
 induction d with
 | zero =>
   intro a b a3 a4 a5 a6 f g hd;have j:=zhP f;have k:=zhP g;have e : a = b:=zt9 h j k (zhE (by omega)) (zhE (by omega));subst e;rw [xl zjq rfl,zmD];simp -implicitDefEqProofs only [go_sem,zjt]
 | succ d ih =>
   intro a b a3 a4 a5 a6 f g hd;obtain ⟨a0,a1⟩:=zhP f;obtain ⟨b0,b1⟩:=zhP g;have ca:=zll t a i;have cb:=zll t b i;simp -implicitDefEqProofs only [go_sem] at ca cb;rw [xl zjq rfl,zmD,zjt]
   by_cases c1 : a = b
   ·subst c1
    simp -implicitDefEqProofs only [go_sem]
   by_cases c2 : zL t b ≤ zL t a
   ·have c : tr t a ≠ -1:=fun e => by
     have m:=zlH a0 a1 e;exact c1 (zt9 h ⟨a0,a1⟩ ⟨b0,b1⟩ e (zhE (by omega)))
    have l:=zfG f c;have:=ih (tr t a) b vU vU vU vU (by omega) g (by omega);simp -implicitDefEqProofs only [go_sem] at this;simp -implicitDefEqProofs only [go_sem,c1,c2,ca,cb,a0,zvt (t:=t) (a:=a) (by omega) (by omega),this]
   ·have c : tr t b ≠ -1:=fun e => by
     have m:=zlH b0 b1 e;omega
    have l:=zfG g c;have:=ih a (tr t b) vU vU vU vU f (by omega) (by omega);simp -implicitDefEqProofs only [go_sem] at this;simp -implicitDefEqProofs only [go_sem,c1,c2,ca,cb,b0,zvt (t:=t) (a:=b) (by omega) (by omega),this]
@[go_sem] theorem zCh (t : List Int) (a b : Int) (e : t.length ≤ 4294967296) : call T 233 [vIs t,vI a,vI b] [] = some (vI (zyC t a b),[]):=by
  rw [ze (fn:=zlA) rfl];have d:=zo6 t a b e;cases c : inS t [a,b]
  ·simp -implicitDefEqProofs only [go_sem,c] at d
   simp -implicitDefEqProofs only [go_sem,zlA,d,c,zyC]
  ·obtain ⟨g,i,f⟩:=zGN c
   have h:=fun a3 a4 a5 a6 => zC7 t e g (zL t a + zL t b).toNat a b a3 a4 a5 a6 i f (by omega);simp -implicitDefEqProofs only [go_sem,c] at d h;simp -implicitDefEqProofs only [go_sem,zlA,d,c,zyC,h]
@[go_sem] theorem zpK (t : List Int) (a b : Int) (e : t.length ≤ 4294967296) : call T 196 [vIs t,vI a,vI b] [] = some (vB (zlU t a b),[]):=by
  rw [ze (fn:=zn3) rfl];have d:=zo6 t a b e;have hm:=zCh t a b e;simp -implicitDefEqProofs only [go_sem] at hm;cases c : inS t [a,b] <;> simp -implicitDefEqProofs only [go_sem,c] at d <;> simp -implicitDefEqProofs only [go_sem,zn3,d,hm,c,zlU]
structure Use where
 v : Int
 shape : Int × Int
 block : Int
 at' : Int
abbrev znn : Int:=1048576
def zah (ask : Use → Int) : List Use → Int
 | [] => 0
 | u :: r => if ask u = 0 then zah ask r else ask u
theorem zhs (ask : Use → Int) : ∀ (a b : List Use),zah ask (a ++ b) = if zah ask a = 0 then zah ask b else zah ask a
 | [],b => by simp [zah]
 | u :: r,b => by
   simp only [List.cons_append,zah,zhs ask r b]
   by_cases h : ask u = 0 <;> simp [h]
def zM (p : PPhi) (k : Nat) : List Int → List Use
 | [] => []
 | v :: r => ⟨v,(p.bits,1),p.src.getD k 0,znn⟩ :: zM p (k + 1) r
def zgk (p : PPhi) : List Use:=zM p 0 p.args
def zW (o : POp) (i at' : Int) (k : Nat) : List (Int × Int) → List Use
 | [] => []
 | s :: r => ⟨o.args.getD k 0,s,i,at'⟩ :: zW o i at' (k + 1) r
def zkK (o : POp) (i at' : Int) : List Use:=zW o i at' 0 (zaC o)
def zr (i : Int) (k : Nat) : List POp → List Use
 | [] => []
 | o :: r => zkK o i (k : Int) ++ zr i (k + 1) r
def zaA (l : List PPhi) : List Use:=l.flatMap zgk
def zjD (f : PFunc) (b : PBlock) : Int:=if b.kind = 0 then f.ret else if b.kind = 2 then 1 else 0
def zbK (f : PFunc) (i : Int) (b : PBlock) : List Use:=if zjD f b = 0 then [] else [⟨b.arg,(zjD f b,1),i,znn⟩]
def zgN (f : PFunc) (i : Int) (b : PBlock) : List Use:=zaA b.phis ++ (zr i 0 b.ops ++ zbK f i b)
def zaB (f : PFunc) (k : Nat) : List PBlock → List Use
 | [] => []
 | b :: r => zgN f (k : Int) b ++ zaB f (k + 1) r
def zfj (f : PFunc) : List Use:=zaB f 0 f.blocks
abbrev zzX (f : PFunc) (level : Int) (x y z d : C) : Ob:=.cells 0 8 [[.f (eI f.params),.f (ei f.ret),.f (.sl (f.blocks.map rb)),.f (ei level),x,y,z,d]]
theorem zju (b : Int) : call T 205 [vI b] [] = some (.agg [.f (ei b),.f (ei 1)],[]):=by
 rw [ze (fn:=ziP) rfl];simp -implicitDefEqProofs only [go_sem,ziP]
section
variable (f : PFunc) (hf : okF f) (level : Int) (x y z dd : C) (g : Nat) (caps : List C) (σ : zd) (hck : σ[1]? = some (zzX f level x y z dd)) (hσ : Ok σ) (hcaps : C.lts σ.length caps = true) (ask : Use → Int)
 (hask : ∀ (r : zd) (u : Use),Obs.lt (σ.length + r.length) r = true → call T g (vI u.v :: .agg [.f (ei u.shape.1),.f (ei u.shape.2)] :: vI u.block :: vI u.at' :: caps.map V.one) (σ ++ r) = some (vI (ask u),σ ++ r))
abbrev zDa : V:=.one (.fn g [] caps)
include hck hσ hcaps hask
theorem zFE (b : PBlock) (p : PPhi) (B : okB b) (A : p ∈ b.phis) (hlen : p.args.length = p.src.length) (i y : Int) : ∀ (d k : Nat) (a2 a7 a8 a9 s n j m e q a25 a26 a27 a28 a29 t l a32 a33 u a35 a36 h : V),p.args.length - k = d → k ≤ p.args.length →
  exec T zcr ⟨[.one (.ptr 1 0 0 0),zDa g caps,a2,vI 0,vI i,.one (.ptr σ.length 0 0 0),.one (.ptr (σ.length + 1) 0 0 0),a7,a8,a9,s,n,j,m,vL (f.blocks.map rb),vI f.blocks.length,vI i,e,vL (b.phis.map rp),vI b.phis.length,vI y,q,vIs p.args,vI p.args.length,vI k,a25,a26,a27,a28,a29,t,l,a32,a33,u,a35,a36,h],σ ++ [.cells 0 5 [zw b],.cells 0 4 [zw6 p]],σ.length,σ.length⟩ =
   some (if zah ask (zM p k (p.args.drop k)) = 0 then (.exit 4,⟨[.one (.ptr 1 0 0 0),zDa g caps,vU,vI 0,vI i,.one (.ptr σ.length 0 0 0),vU,vU,vU,vU,vU,vU,vU,vU,vL (f.blocks.map rb),vI f.blocks.length,vI i,vU,vL (b.phis.map rp),vI b.phis.length,vI y,vU,vU,vU,vU,vU,vU,vU,vU,vU,vU,vU,vU,vU,vU,vU,vU,vU],σ ++ [.cells 0 5 [zw b],.cells 0 4 [zw6 p]],σ.length,σ.length⟩)
    else (.goto 0,⟨[vU,vU,vU,vI (zah ask (zM p k (p.args.drop k))),vU,vU,vU,vU,vU,vU,vU,vU,vU,vU,vU,vU,vU,vU,vU,vU,vU,vU,vU,vU,vU,vU,vU,vU,vU,vU,vU,vU,vU,vU,vU,vU,vU,vU],σ,σ.length,σ.length⟩)):=by
 intro d;have w:=fun k => zfu (yj σ.length k) caps hcaps;have C : p.args.length ≤ 4294967296:=(B.phi p A).2
 induction d with
 | zero =>
   intro k a2 a7 a8 a9 s n j m e q a25 a26 a27 a28 a29 t l a32 a33 u a35 a36 h D E;have a : k = p.args.length:=(by omega);subst a;rw [xl zcr rfl,zeQ];simp -implicitDefEqProofs only [go_sem,ye,yb,zM,zah]
 | succ d ih =>
   intro k a2 a7 a8 a9 s n j m e q a25 a26 a27 a28 a29 t l a32 a33 u a35 a36 h D E;have a : k < p.args.length:=(by omega);have r : k < p.src.length:=(by omega);have hd : p.args.drop k = p.args[k] :: p.args.drop (k + 1):=ya a;have o:=zju p.bits;have x:=hask [.cells 0 5 [zw b],.cells 0 4 [zw6 p]] ⟨p.args[k],(p.bits,1),p.src[k],znn⟩ (by simp -implicitDefEqProofs only [go_sem]);have z : p.src.getD k 0 = p.src[k]:=(by simp [r]);rw [xl zcr rfl,zeQ,hd,zM,zah,z];simp -implicitDefEqProofs only [go_sem,znn] at o x
   by_cases c : ask ⟨p.args[k],(p.bits,1),p.src[k],znn⟩ = 0
   ·have c' : ask { v:=p.args[k],shape:=(p.bits,1),block:=p.src[k],at':=1048576 } = 0:=c
    have:=ih (k + 1) vU vU vU vU vU vU vU vU vU vU vU vU vU vU vU vU vU vU vU vU vU vU vU (by omega) (by omega);simp -implicitDefEqProofs only [go_sem] at this;simp -implicitDefEqProofs only [go_sem,ilt a,zy a,zy r,ri,o,x,c',za a C,znn,w,Ok.up hσ,zgj hck,Ok.at hσ,zf6 hck,this]
   ·have c' : ¬ ask { v:=p.args[k],shape:=(p.bits,1),block:=p.src[k],at':=1048576 } = 0:=c
    simp -implicitDefEqProofs only [go_sem,ilt a,zy a,zy r,ri,o,x,c',znn,Ok.at hσ]
def zkI (b : PBlock) : Prop:=(∀ p ∈ b.phis,p.args.length = p.src.length) ∧ ∀ o ∈ b.ops,(zaC o).length ≤ o.args.length
theorem zFX (b : PBlock) (w : okB b) (v : zkI b) (i : Int) : ∀ (d k : Nat) (a2 a6 a7 a8 a9 p n j m a o a22 a23 a24 a25 a26 a27 a28 a29 q l a32 a33 r a35 a36 h : V),b.phis.length - k = d → k ≤ b.phis.length →
  exec T zcw ⟨[.one (.ptr 1 0 0 0),zDa g caps,a2,vI 0,vI i,.one (.ptr σ.length 0 0 0),a6,a7,a8,a9,p,n,j,m,vL (f.blocks.map rb),vI f.blocks.length,vI i,a,vL (b.phis.map rp),vI b.phis.length,vI k,o,a22,a23,a24,a25,a26,a27,a28,a29,q,l,a32,a33,r,a35,a36,h],σ ++ [.cells 0 5 [zw b]],σ.length,σ.length⟩ =
   some (if zah ask (zaA (b.phis.drop k)) = 0 then (.exit 2,⟨[.one (.ptr 1 0 0 0),zDa g caps,vU,vI 0,vI i,.one (.ptr σ.length 0 0 0),vU,vU,vU,vU,vU,vU,vU,vU,vL (f.blocks.map rb),vI f.blocks.length,vI i,vU,vU,vU,vU,vU,vU,vU,vU,vU,vU,vU,vU,vU,vU,vU,vU,vU,vU,vU,vU,vU],σ ++ [.cells 0 5 [zw b]],σ.length,σ.length⟩)
    else (.goto 0,⟨[vU,vU,vU,vI (zah ask (zaA (b.phis.drop k))),vU,vU,vU,vU,vU,vU,vU,vU,vU,vU,vU,vU,vU,vU,vU,vU,vU,vU,vU,vU,vU,vU,vU,vU,vU,vU,vU,vU,vU,vU,vU,vU,vU,vU],σ,σ.length,σ.length⟩)):=by
 intro d;have u:=fun k => zfu (yj σ.length k) caps hcaps
 induction d with
 | zero =>
   intro k a2 a6 a7 a8 a9 p n j m a o a22 a23 a24 a25 a26 a27 a28 a29 q l a32 a33 r a35 a36 h A B;have s : k = b.phis.length:=(by omega);subst s;rw [xl zcw rfl,zeq];simp -implicitDefEqProofs only [go_sem,ye,yb,zaA,List.flatMap_nil,zah]
 | succ d ih =>
   intro k a2 a6 a7 a8 a9 p n j m a o a22 a23 a24 a25 a26 a27 a28 a29 q l a32 a33 r a35 a36 h A B;have s : k < b.phis.length:=(by omega);have hd : b.phis.drop k = b.phis[k] :: b.phis.drop (k + 1):=ya s;have hm:=yk s;have t:=fun a2 a7 a8 a9 p n j m a o a25 a26 a27 a28 a29 q l a32 a33 r a35 a36 h => zFE f level x y z dd g caps σ hck hσ hcaps ask hask b b.phis[k] w hm (v.1 _ hm) i k b.phis[k].args.length 0 a2 a7 a8 a9 p n j m a o a25 a26 a27 a28 a29 q l a32 a33 r a35 a36 h (by omega) (by omega);have e : zaA (b.phis[k] :: b.phis.drop (k + 1)) = zgk b.phis[k] ++ zaA (b.phis.drop (k + 1)):=(by rw [zaA,List.flatMap_cons]; rfl);rw [xl zcw rfl,zeq,hd,e,zhs];simp only [yi,yf] at t;have e2 : zM b.phis[k] 0 b.phis[k].args = zgk b.phis[k]:=rfl;rw [e2] at t
   by_cases c : zah ask (zgk b.phis[k]) = 0
   ·have:=ih (k + 1) vU vU vU vU vU vU vU vU vU vU vU vU vU vU vU vU vU vU vU vU vU vU vU vU vU vU vU (by omega) (by omega)
    simp -implicitDefEqProofs only [go_sem,c] at this t;simp -implicitDefEqProofs only [go_sem,ilt s,zy s,rp,t,c,za s w.phis,u,Ok.up hσ,zgj hck,Ok.at hσ,zf6 hck,this]
   ·simp -implicitDefEqProofs only [go_sem,c] at t
    simp -implicitDefEqProofs only [go_sem,ilt s,zy s,rp,t,c]
theorem zGp (b : PBlock) (o : POp) (y : okB b) (A : o ∈ b.ops) (hlen : (zaC o).length ≤ o.args.length) (i u : Int) : ∀ (d k : Nat) (a2 a6 a7 a8 n j m e r l a20 p a22 a23 a24 a25 a26 t s a35 a36 h : V),(zaC o).length - k = d → k ≤ (zaC o).length →
  exec T zci ⟨[.one (.ptr 1 0 0 0),zDa g caps,a2,vI 0,vI i,.one (.ptr σ.length 0 0 0),a6,a7,a8,vI u,.one (.ptr (σ.length + 1) 0 0 0),n,j,m,vL (f.blocks.map rb),vI f.blocks.length,vI i,e,r,l,a20,p,a22,a23,a24,a25,a26,vL (b.ops.map ro),vI b.ops.length,vI u,t,vSs (zaC o),vI (zaC o).length,vI k,s,a35,a36,h],σ ++ [.cells 0 5 [zw b],.cells 0 6 [cOp o]],σ.length,σ.length⟩ =
   some (if zah ask (zW o i u k ((zaC o).drop k)) = 0 then (.exit 8,⟨[.one (.ptr 1 0 0 0),zDa g caps,vU,vI 0,vI i,.one (.ptr σ.length 0 0 0),vU,vU,vU,vU,vU,vU,vU,vU,vL (f.blocks.map rb),vI f.blocks.length,vI i,vU,vU,vU,vU,vU,vU,vU,vU,vU,vU,vL (b.ops.map ro),vI b.ops.length,vI u,vU,vU,vU,vU,vU,vU,vU,vU],σ ++ [.cells 0 5 [zw b],.cells 0 6 [cOp o]],σ.length,σ.length⟩)
    else (.goto 0,⟨[vU,vU,vU,vI (zah ask (zW o i u k ((zaC o).drop k))),vU,vU,vU,vU,vU,vU,vU,vU,vU,vU,vU,vU,vU,vU,vU,vU,vU,vU,vU,vU,vU,vU,vU,vU,vU,vU,vU,vU,vU,vU,vU,vU,vU,vU],σ,σ.length,σ.length⟩)):=by
 intro d;have v:=fun k => zfu (yj σ.length k) caps hcaps;have z : (zaC o).length ≤ 4294967296:=by have:=(y.op o A).2; omega
 induction d with
 | zero =>
   intro k a2 a6 a7 a8 n j m e r l a20 p a22 a23 a24 a25 a26 t s a35 a36 h B C;have a : k = (zaC o).length:=(by omega);subst a;rw [xl zci rfl,zeX];simp -implicitDefEqProofs only [go_sem,ye,yb,zW,zah]
 | succ d ih =>
   intro k a2 a6 a7 a8 n j m e r l a20 p a22 a23 a24 a25 a26 t s a35 a36 h B C;have a : k < (zaC o).length:=(by omega);have q : k < o.args.length:=(by omega);have hd : (zaC o).drop k = (zaC o)[k] :: (zaC o).drop (k + 1):=ya a;have w:=hask [.cells 0 5 [zw b],.cells 0 6 [cOp o],.cells 0 2 [[.f (ei (zaC o)[k].1),.f (ei (zaC o)[k].2)]]] ⟨o.args[k],(zaC o)[k],i,u⟩ (by simp -implicitDefEqProofs only [go_sem]);have x : o.args.getD k 0 = o.args[k]:=(by simp [q]);rw [xl zci rfl,zeX,hd,zW,zah,x];simp -implicitDefEqProofs only [go_sem] at w
   by_cases c : ask ⟨o.args[k],(zaC o)[k],i,u⟩ = 0
   ·have:=ih (k + 1) vU vU vU vU vU vU vU vU vU vU vU vU vU vU vU vU vU vU vU vU vU vU (by omega) (by omega)
    simp -implicitDefEqProofs only [go_sem,c] at this w;simp -implicitDefEqProofs only [go_sem,ilt a,zy a,zy q,ri,rs,w,c,za a z,v,Ok.up hσ,zgj hck,Ok.at hσ,zf6 hck,this]
   ·simp -implicitDefEqProofs only [go_sem,ilt a,zy a,zy q,ri,rs,w,c,Ok.at hσ]
theorem zFF (b : PBlock) (w : okB b) (B : zkI b) (i : Int) : ∀ (d k : Nat) (a2 a6 a7 a8 a9 t m h l a o j a20 n a22 a23 a24 a25 a26 p s a32 a33 q a35 a36 e : V),b.ops.length - k = d → k ≤ b.ops.length →
  exec T zch ⟨[.one (.ptr 1 0 0 0),zDa g caps,a2,vI 0,vI i,.one (.ptr σ.length 0 0 0),a6,a7,a8,a9,t,m,h,l,vL (f.blocks.map rb),vI f.blocks.length,vI i,a,o,j,a20,n,a22,a23,a24,a25,a26,vL (b.ops.map ro),vI b.ops.length,vI k,p,s,a32,a33,q,a35,a36,e],σ ++ [.cells 0 5 [zw b]],σ.length,σ.length⟩ =
   some (if zah ask (zr i k (b.ops.drop k)) = 0 then (.exit 6,⟨[.one (.ptr 1 0 0 0),zDa g caps,vU,vI 0,vI i,.one (.ptr σ.length 0 0 0),vU,vU,vU,vU,vU,vU,vU,vU,vL (f.blocks.map rb),vI f.blocks.length,vI i,vU,vU,vU,vU,vU,vU,vU,vU,vU,vU,vU,vU,vU,vU,vU,vU,vU,vU,vU,vU,vU],σ ++ [.cells 0 5 [zw b]],σ.length,σ.length⟩)
    else (.goto 0,⟨[vU,vU,vU,vI (zah ask (zr i k (b.ops.drop k))),vU,vU,vU,vU,vU,vU,vU,vU,vU,vU,vU,vU,vU,vU,vU,vU,vU,vU,vU,vU,vU,vU,vU,vU,vU,vU,vU,vU,vU,vU,vU,vU,vU,vU],σ,σ.length,σ.length⟩)):=by
 intro d;have v:=fun k => zfu (yj σ.length k) caps hcaps
 induction d with
 | zero =>
   intro k a2 a6 a7 a8 a9 t m h l a o j a20 n a22 a23 a24 a25 a26 p s a32 a33 q a35 a36 e C D;have r : k = b.ops.length:=(by omega);subst r;rw [xl zch rfl,zeF];simp -implicitDefEqProofs only [go_sem,ye,yb,zr,zah]
 | succ d ih =>
   intro k a2 a6 a7 a8 a9 t m h l a o j a20 n a22 a23 a24 a25 a26 p s a32 a33 q a35 a36 e C D;have r : k < b.ops.length:=(by omega);have hd : b.ops.drop k = b.ops[k] :: b.ops.drop (k + 1):=ya r;have hm:=yk r;have A:=zqb b.ops[k] (w.op _ hm).1 (w.op _ hm).2;have u:=fun a2 a6 a7 a8 m h l a o j a20 n a22 a23 a24 a25 a26 p q a35 a36 e => zGp f level x y z dd g caps σ hck hσ hcaps ask hask b b.ops[k] w hm (B.2 _ hm) i k (zaC b.ops[k]).length 0 a2 a6 a7 a8 m h l a o j a20 n a22 a23 a24 a25 a26 p q a35 a36 e (by omega) (by omega);rw [xl zch rfl,zeF,hd,zr,zhs];simp only [yi,yf] at u;have e2 : zW b.ops[k] i k 0 (zaC b.ops[k]) = zkK b.ops[k] i k:=rfl;rw [e2] at u;simp -implicitDefEqProofs only [go_sem] at A
   by_cases c : zah ask (zkK b.ops[k] i k) = 0
   ·have:=ih (k + 1) vU vU vU vU vU vU vU vU vU vU vU vU vU vU vU vU vU vU vU vU vU vU vU vU vU vU vU (by omega) (by omega)
    simp -implicitDefEqProofs only [go_sem,c] at this u;simp -implicitDefEqProofs only [go_sem,ilt r,zy r,ro,A,u,c,za r w.ops,v,Ok.up hσ,zgj hck,Ok.at hσ,zf6 hck,this]
   ·simp -implicitDefEqProofs only [go_sem,c] at u
    simp -implicitDefEqProofs only [go_sem,ilt r,zy r,ro,A,u,c]
theorem zFO (hf : okF f) (J : ∀ b ∈ f.blocks,zkI b) : ∀ (d k : Nat) (a2 a4 a5 a6 a7 a8 a9 s p m o j C A a20 q a22 a23 a24 a25 a26 a27 a28 a29 r n a32 a33 v a35 a36 l : V),f.blocks.length - k = d → k ≤ f.blocks.length →
  exec T zcx ⟨[.one (.ptr 1 0 0 0),zDa g caps,a2,vI 0,a4,a5,a6,a7,a8,a9,s,p,m,o,vL (f.blocks.map rb),vI f.blocks.length,vI k,j,C,A,a20,q,a22,a23,a24,a25,a26,a27,a28,a29,r,n,a32,a33,v,a35,a36,l],σ,σ.length,σ.length⟩ =
   some (if zah ask (zaB f k (f.blocks.drop k)) = 0 then (.exit 0,⟨[vU,vU,vU,vI 0,vU,vU,vU,vU,vU,vU,vU,vU,vU,vU,vU,vU,vU,vU,vU,vU,vU,vU,vU,vU,vU,vU,vU,vU,vU,vU,vU,vU,vU,vU,vU,vU,vU,vU],σ,σ.length,σ.length⟩)
    else (.goto 0,⟨[vU,vU,vU,vI (zah ask (zaB f k (f.blocks.drop k))),vU,vU,vU,vU,vU,vU,vU,vU,vU,vU,vU,vU,vU,vU,vU,vU,vU,vU,vU,vU,vU,vU,vU,vU,vU,vU,vU,vU,vU,vU,vU,vU,vU,vU],σ,σ.length,σ.length⟩)):=by
 intro d;have i:=fun k => zfu (yj σ.length k) caps hcaps;have h:=zc6 hck
 induction d with
 | zero =>
   intro k a2 a4 a5 a6 a7 a8 a9 s p m o j C A a20 q a22 a23 a24 a25 a26 a27 a28 a29 r n a32 a33 v a35 a36 l M N;have a : k = f.blocks.length:=(by omega);subst a;rw [xl zcx rfl,zeK];simp -implicitDefEqProofs only [go_sem,ye,yb,zaB,zah]
 | succ d ih =>
   intro k a2 a4 a5 a6 a7 a8 a9 s p m o j C A a20 q a22 a23 a24 a25 a26 a27 a28 a29 r n a32 a33 v a35 a36 l M N;have a : k < f.blocks.length:=(by omega);have hd : f.blocks.drop k = f.blocks[k] :: f.blocks.drop (k + 1):=ya a;have hm:=yk a;have L:=hf.block _ hm;have w:=fun a2 a6 a7 a8 a9 s p m o j q a22 a23 a24 a25 a26 a27 a28 a29 r n a32 a33 v a35 a36 l => zFX f level x y z dd g caps σ hck hσ hcaps ask hask f.blocks[k] L (J _ hm) k f.blocks[k].phis.length 0 a2 a6 a7 a8 a9 s p m o j q a22 a23 a24 a25 a26 a27 a28 a29 r n a32 a33 v a35 a36 l (by omega) (by omega);have D:=fun a2 a6 a7 a8 a9 s p m o j C A a20 q a22 a23 a24 a25 a26 r n a32 a33 v a35 a36 l => zFF f level x y z dd g caps σ hck hσ hcaps ask hask f.blocks[k] L (J _ hm) k f.blocks[k].ops.length 0 a2 a6 a7 a8 a9 s p m o j C A a20 q a22 a23 a24 a25 a26 r n a32 a33 v a35 a36 l (by omega) (by omega);rw [xl zcx rfl,zeK,hd,zaB,zhs,zgN,zhs,zhs];simp only [yi,yf] at w D
   by_cases c6 : zah ask (zaA f.blocks[k].phis) = 0
   ·by_cases c8 : zah ask (zr k 0 f.blocks[k].ops) = 0
    ·have:=ih (k + 1) vU vU vU vU vU vU vU vU vU vU vU vU vU vU vU vU vU vU vU vU vU vU vU vU vU vU vU vU vU vU vU vU (by omega) (by omega)
     simp -implicitDefEqProofs only [go_sem,c6,c8] at this w D;have I:=fun u => hask [.cells 0 5 [zw f.blocks[k]],.mp [(0,V.one (.f (.lit (.int .i64 f.ret)))),(2,V.one (.f (.lit (.int .i64 1))))]] ⟨f.blocks[k].arg,(u,1),k,znn⟩ (by simp -implicitDefEqProofs only [go_sem]);have B:=fun u => zju u;simp -implicitDefEqProofs only [go_sem,znn] at I B
     by_cases H : f.blocks[k].kind = 0
     ·have t : (0 : Int) = f.blocks[k].kind:=H.symm
      by_cases G : f.ret = 0
      ·have eu : zbK f k f.blocks[k] = []:=by simp [zbK,zjD,H,G]
       simp -implicitDefEqProofs only [go_sem,ilt a,zy a,rb,w,D,c6,c8,eu,zah,h,hck,eq_true t,eq_true G,G,za a hf.blocks,i,Ok.up hσ,zgj hck,Ok.at hσ,zf6 hck,hcaps,this]
      ·have eu : zbK f k f.blocks[k] = [⟨f.blocks[k].arg,(f.ret,1),k,1048576⟩]:=by simp [zbK,zjD,H,G]
       by_cases c : ask ⟨f.blocks[k].arg,(f.ret,1),k,1048576⟩ = 0
       ·simp -implicitDefEqProofs only [go_sem,ilt a,zy a,rb,w,D,c6,c8,eu,zah,h,hck,eq_true t,G,B,I,c,za a hf.blocks,i,Ok.up hσ,zgj hck,Ok.at hσ,zf6 hck,hcaps,this]
       ·simp -implicitDefEqProofs only [go_sem,ilt a,zy a,rb,w,D,c6,c8,eu,zah,h,hck,eq_true t,G,B,I,c,i,Ok.up hσ,zgj hck,Ok.at hσ,zf6 hck,hcaps]
     ·have t : ¬ (0 : Int) = f.blocks[k].kind:=fun e => H e.symm
      by_cases K : f.blocks[k].kind = 2
      ·have E : (2 : Int) = f.blocks[k].kind:=K.symm
       have eu : zbK f k f.blocks[k] = [⟨f.blocks[k].arg,(1,1),k,1048576⟩]:=by simp [zbK,zjD,H,K]
       by_cases c : ask ⟨f.blocks[k].arg,(1,1),k,1048576⟩ = 0
       ·simp -implicitDefEqProofs only [go_sem,ilt a,zy a,rb,w,D,c6,c8,eu,zah,h,hck,t,eq_true E,B,I,c,za a hf.blocks,i,Ok.up hσ,zgj hck,Ok.at hσ,zf6 hck,hcaps,this]
       ·simp -implicitDefEqProofs only [go_sem,ilt a,zy a,rb,w,D,c6,c8,eu,zah,h,hck,t,eq_true E,B,I,c,i,Ok.up hσ,zgj hck,Ok.at hσ,zf6 hck,hcaps]
      ·have E : ¬ (2 : Int) = f.blocks[k].kind:=fun e => K e.symm
       have eu : zbK f k f.blocks[k] = []:=(by simp [zbK,zjD,H,K]);simp -implicitDefEqProofs only [go_sem,ilt a,zy a,rb,w,D,c6,c8,eu,zah,h,hck,t,E,za a hf.blocks,i,Ok.up hσ,zgj hck,Ok.at hσ,zf6 hck,hcaps,this]
    ·simp -implicitDefEqProofs only [go_sem,c6,c8] at w D
     simp -implicitDefEqProofs only [go_sem,ilt a,zy a,rb,w,D,c6,c8]
   ·simp -implicitDefEqProofs only [go_sem,c6] at w
    simp -implicitDefEqProofs only [go_sem,ilt a,zy a,rb,w,c6]
theorem zqc (hf : okF f) (r : ∀ b ∈ f.blocks,zkI b) : call T 207 [.one (.ptr 1 0 0 0),zDa g caps] σ = some (vI (zah ask (zfj f)),σ):=by
 rw [ze (fn:=zc7) rfl];have h:=fun a2 a4 a5 a6 a7 a8 a9 p m i l a o k a20 n a22 a23 a24 a25 a26 a27 a28 a29 q j a32 a33 s a35 a36 d => zFO f level x y z dd g caps σ hck hσ hcaps ask hask hf r f.blocks.length 0 a2 a4 a5 a6 a7 a8 a9 p m i l a o k a20 n a22 a23 a24 a25 a26 a27 a28 a29 q j a32 a33 s a35 a36 d (by omega) (by omega);simp only [yi,yf] at h;have t:=zc6 hck [];have e : zaB f 0 f.blocks = zfj f:=rfl;rw [e] at h
 by_cases c : zah ask (zfj f) = 0
 ·simp -implicitDefEqProofs only [go_sem,c] at h
  simp -implicitDefEqProofs only [go_sem,zc7,zei,zhH,hck,h,c]
 ·simp -implicitDefEqProofs only [go_sem,c] at h
  simp -implicitDefEqProofs only [go_sem,zc7,zhH];rw [zei];simp -implicitDefEqProofs only [go_sem,hck,h,zhH]
end
theorem ztR (o : POp) (i : zwG o) : call T 128 [vOp o] [] = some (vSs (zaC o),[]):=by
 rw [ze (fn:=zcv) rfl];have a:=zmT o i;cases hm : zgh o
 ·simp -implicitDefEqProofs only [go_sem,hm] at a
  simp -implicitDefEqProofs only [go_sem,zcv,zaC,hm,a,Bool.false_eq_true,yr]
 simp -implicitDefEqProofs only [go_sem,hm] at a;have h:=fun a0 a2 a5 a6 a7 a8 a9 j e c d k f g b => zvS o i hm o.args.length 0 a0 a2 a5 a6 a7 a8 a9 j e c d k f g b (by omega) (by omega);rw [zzi hm i.1.1] at h;simp only [yf,List.range_zero,yr] at h;simp -implicitDefEqProofs only [go_sem] at h;simp -implicitDefEqProofs only [go_sem,zcv,zaC,hm,a,h]
def rU (u : Use) : List Fz:=[ei u.v,ei u.block,ei u.at',ei u.shape.1,ei u.shape.2]
abbrev vUs (l : List Use) : V:=.one (.f (.sl (l.map rU)))
attribute [go_sem] vUs
def zl (v : Int) : Nat → List Use → Int
 | _,[] => -1
 | k,u :: r => if u.v = v then (k : Int) else zl v (k + 1) r
theorem zyD (l : List Use) (v : Int) (e : l.length ≤ 4294967296) : ∀ (d k : Nat) (a2 a4 a5 : V),l.length - k = d → k ≤ l.length →
  exec T zcP ⟨[vUs l,vI v,a2,vI k,a4,a5],[],0,0⟩ = some (if zl v k (l.drop k) = -1 then (.exit 0,⟨[vU,vU,vU,vU,vU,vU],[],0,0⟩) else (.ret,⟨[vU,vU,vI (zl v k (l.drop k)),vU,vU,vU],[],0,0⟩)):=by
 intro d
 induction d with
 | zero =>
   intro k a2 a4 a5 f g;have a : k = l.length:=(by omega);subst a;rw [xl zcP rfl,zeR];simp -implicitDefEqProofs only [go_sem,ye,yc,yb,zl]
 | succ d ih =>
   intro k a2 a4 a5 f g;have a : k < l.length:=(by omega);have hd : l.drop k = l[k] :: l.drop (k + 1):=ya a;have:=ih (k + 1) vU vU vU (by omega) (by omega);rw [xl zcP rfl,zeR,hd,zl];simp -implicitDefEqProofs only [go_sem] at this
   by_cases c : l[k].v = v
   ·have b : ¬ (k : Int) = -1:=by omega
    rw [if_pos c,if_neg b];simp -implicitDefEqProofs only [go_sem,ilt a,zy a,rU,yc,c,yo,yp]
   ·rw [if_neg c]
    simp -implicitDefEqProofs only [go_sem,ilt a,zy a,rU,yc,c,yo,yp,za a e,this]
theorem zfT (l : List Use) (v : Int) (a : l.length ≤ 4294967296) : call T 75 [vUs l,vI v] [] = some (vI (zl v 0 l),[]):=by
 rw [ze (fn:=zdf) rfl];have h:=fun a2 a4 a5 => zyD l v a l.length 0 a2 a4 a5 (by omega) (by omega);simp only [yf,yi] at h
 by_cases c : zl v 0 l = -1
 ·simp -implicitDefEqProofs only [go_sem,eq_true c] at h
  simp -implicitDefEqProofs only [go_sem,zdf,h,c]
 ·simp -implicitDefEqProofs only [go_sem,c] at h
  simp -implicitDefEqProofs only [go_sem,zdf,h]
def zaJ : Nat → List Int → List Use
 | _,[] => []
 | k,b :: r => ⟨(k : Int) + 1,(b,1),-1,0⟩ :: zaJ (k + 1) r
def zcZ (i : Int) (l : List PPhi) : List Use:=l.map fun p => ⟨p.dst,(p.bits,1),i,-1⟩
def zdP (i : Int) : Nat → List POp → List Use
 | _,[] => []
 | k,o :: r => if 0 < (zad o).1 then ⟨o.dst,zad o,i,(k : Int)⟩ :: zdP i (k + 1) r else zdP i (k + 1) r
def zaa : Nat → List PBlock → List Use
 | _,[] => []
 | k,b :: r => zcZ k b.phis ++ (zdP k 0 b.ops ++ zaa (k + 1) r)
def zt (f : PFunc) : List Use:=zaJ 0 f.params ++ zaa 0 f.blocks
theorem zg2 : ∀ (l : List Int) (k : Nat),(zaJ k l).length = l.length
 | [],_ => rfl
 | b :: r,k => by rw [zaJ,yg,zg2 r,yg]
theorem zjJ (i : Int) : ∀ (l : List POp) (k : Nat),(zdP i k l).length ≤ l.length
 | [],_ => by simp [zdP]
 | o :: r,k => by
   have:=zjJ i r (k + 1);rw [zdP];split <;> simp only [yg] <;> omega
section
variable (f : PFunc) (hf : okF f)
abbrev zgG (n : Nat) (r : zd) : zd:=.cells 0 3 [zcz f] :: .tok 5 [n] :: r
include hf
theorem zBA : ∀ (d k : Nat) (acc : List Use) (a0 a2 a5 a6 a7 a8 a9 g c a b h e : V),f.params.length - k = d → k ≤ f.params.length → acc.length + d ≤ 4294967296 →
  exec T zcB ⟨[a0,.one (.ptr 0 0 0 0),a2,.one (.ap 1 0 (acc.map rU)),vI k,a5,a6,a7,a8,a9,g,c,a,b,h,e],zgG f acc.length [],0,0⟩ =
   some (.exit 0,⟨[vU,.one (.ptr 0 0 0 0),vU,.one (.ap 1 0 ((acc ++ zaJ k (f.params.drop k)).map rU)),vU,vU,vU,vU,vU,vU,vU,vU,vU,vU,vU,vU],zgG f (acc ++ zaJ k (f.params.drop k)).length [],0,0⟩):=by
 intro d
 induction d with
 | zero =>
   intro k acc a0 a2 a5 a6 a7 a8 a9 g c a b h e m n l;have i : k = f.params.length:=(by omega);subst i;rw [xl zcB rfl,zeG];simp -implicitDefEqProofs only [go_sem,zgG,ye,yc,yb,zaJ,ym]
 | succ d ih =>
   intro k acc a0 a2 a5 a6 a7 a8 a9 g c a b h e m n l;have i : k < f.params.length:=(by omega);have hd : f.params.drop k = f.params[k] :: f.params.drop (k + 1):=ya i;have j : acc.length + 1 ≤ LIM:=(by unfold LIM; omega);have:=ih (k + 1) (acc ++ [⟨(k : Int) + 1,(f.params[k],1),-1,0⟩]) vU vU vU vU vU vU vU vU vU vU vU vU vU (by omega) (by omega) (by simp; omega);have e1 : ys rU acc ++ [[Fz.lit (Value.int .i64 ((k + 1 : Nat) : Int)),Fz.lit (Value.int .i64 (-1)),Fz.lit (Value.int .i64 0),Fz.lit (Value.int .i64 f.params[k]),Fz.lit (Value.int .i64 1)]] = ys rU (acc ++ [⟨(k : Int) + 1,(f.params[k],1),-1,0⟩]):=(by simp [rU]);rw [yh,yl] at this;rw [xl zcB rfl,zeG,hd,zaJ];simp -implicitDefEqProofs only [go_sem,zgG,yd,yg,yn,yq] at this;simp -implicitDefEqProofs only [go_sem,zgG,ilt i,zy i,ri,yc,za i hf.params,j,e1,yd,yg,this]
theorem zz1 (b : PBlock) (n : okB b) (i : Nat) : ∀ (d k : Nat) (acc : List Use) (a0 a2 a4 a8 a9 h e a c j g : V),b.phis.length - k = d → k ≤ b.phis.length → acc.length + d ≤ 4294967296 →
  exec T zcS ⟨[a0,.one (.ptr 0 0 0 0),a2,.one (.ap 1 0 (acc.map rU)),a4,vI i,.one (.ptr 2 0 0 0),vI k,a8,a9,h,e,a,c,j,g],zgG f acc.length [.cells 0 5 [zw b]],0,0⟩ =
   some (.exit 4,⟨[vU,.one (.ptr 0 0 0 0),vU,.one (.ap 1 0 ((acc ++ zcZ i (b.phis.drop k)).map rU)),vU,vI i,.one (.ptr 2 0 0 0),vU,vU,vU,vU,vU,vU,vU,vU,vU],zgG f (acc ++ zcZ i (b.phis.drop k)).length [.cells 0 5 [zw b]],0,0⟩):=by
 intro d
 induction d with
 | zero =>
   intro k acc a0 a2 a4 a8 a9 h e a c j g p q o;have l : k = b.phis.length:=(by omega);subst l;rw [xl zcS rfl,zez];simp -implicitDefEqProofs only [go_sem,zgG,ye,yc,yb,zcZ,yr,ym]
 | succ d ih =>
   intro k acc a0 a2 a4 a8 a9 h e a c j g p q o;have l : k < b.phis.length:=(by omega);have hd : b.phis.drop k = b.phis[k] :: b.phis.drop (k + 1):=ya l;have m : acc.length + 1 ≤ LIM:=(by unfold LIM; omega);have:=ih (k + 1) (acc ++ [⟨b.phis[k].dst,(b.phis[k].bits,1),i,-1⟩]) vU vU vU vU vU vU vU vU vU vU vU (by omega) (by omega) (by simp; omega);have e1 : ys rU acc ++ [[Fz.lit (Value.int .i64 b.phis[k].dst),Fz.lit (Value.int .i64 (i : Int)),Fz.lit (Value.int .i64 (-1)),Fz.lit (Value.int .i64 b.phis[k].bits),Fz.lit (Value.int .i64 1)]] = ys rU (acc ++ [⟨b.phis[k].dst,(b.phis[k].bits,1),i,-1⟩]):=(by simp [rU]);have e2 : zcZ (i : Int) (b.phis[k] :: b.phis.drop (k + 1)) = ⟨b.phis[k].dst,(b.phis[k].bits,1),i,-1⟩ :: zcZ i (b.phis.drop (k + 1)):=rfl;rw [yh,yl] at this;rw [xl zcS rfl,zez,hd,e2];simp -implicitDefEqProofs only [go_sem,zgG,yd,yg,yn,yq] at this;simp -implicitDefEqProofs only [go_sem,zgG,ilt l,zy l,rp,yc,za l n.phis,m,e1,yd,yg,this]
theorem zBy (b : PBlock) (p : okB b) (i : Nat) : ∀ (d k : Nat) (acc : List Use) (a0 a2 a4 a7 a9 l h e g m j : V),b.ops.length - k = d → k ≤ b.ops.length → acc.length + d ≤ 4294967296 →
  exec T zct ⟨[a0,.one (.ptr 0 0 0 0),a2,.one (.ap 1 0 (acc.map rU)),a4,vI i,.one (.ptr 2 0 0 0),a7,vI k,a9,l,h,e,g,m,j],zgG f acc.length [.cells 0 5 [zw b]],0,0⟩ =
   some (.exit 6,⟨[vU,.one (.ptr 0 0 0 0),vU,.one (.ap 1 0 ((acc ++ zdP i k (b.ops.drop k)).map rU)),vU,vI i,vU,vU,vU,vU,vU,vU,vU,vU,vU,vU],zgG f (acc ++ zdP i k (b.ops.drop k)).length [.cells 0 5 [zw b]],0,0⟩):=by
 intro d
 induction d with
 | zero =>
   intro k acc a0 a2 a4 a7 a9 l h e g m j s t r;have a : k = b.ops.length:=(by omega);subst a;rw [xl zct rfl,zeD];simp -implicitDefEqProofs only [go_sem,zgG,ye,yc,yb,zdP,ym]
 | succ d ih =>
   intro k acc a0 a2 a4 a7 a9 l h e g m j s t r;have a : k < b.ops.length:=(by omega);have hd : b.ops.drop k = b.ops[k] :: b.ops.drop (k + 1):=ya a;have n : acc.length + 1 ≤ LIM:=(by unfold LIM; omega);have o:=zt0 b.ops[k] (p.op _ (yk a));rw [xl zct rfl,zeD,hd,zdP];simp -implicitDefEqProofs only [go_sem] at o
   by_cases c : 0 < (zad b.ops[k]).1
   ·have q : (zad b.ops[k]).1 > 0:=c
    have:=ih (k + 1) (acc ++ [⟨b.ops[k].dst,zad b.ops[k],i,(k : Int)⟩]) vU vU vU vU vU vU vU vU vU vU vU (by omega) (by omega) (by simp; omega);have e1 : ys rU acc ++ [[Fz.lit (Value.int .i64 b.ops[k].dst),Fz.lit (Value.int .i64 (i : Int)),Fz.lit (Value.int .i64 (k : Int)),Fz.lit (Value.int .i64 (zad b.ops[k]).1),Fz.lit (Value.int .i64 (zad b.ops[k]).2)]] = ys rU (acc ++ [⟨b.ops[k].dst,zad b.ops[k],i,(k : Int)⟩]):=(by simp [rU]);rw [yh,yl] at this;rw [if_pos c];simp -implicitDefEqProofs only [go_sem,zgG,yd,yg,yn,yq] at this;simp -implicitDefEqProofs only [go_sem,zgG,ilt a,zy a,ro,yc,o,eq_true q,za a p.ops,n,e1,yd,yg,this]
   ·have q : ¬ (zad b.ops[k]).1 > 0:=c
    have:=ih (k + 1) acc vU vU vU vU vU vU vU vU vU vU vU (by omega) (by omega) (by omega);rw [if_neg c];simp -implicitDefEqProofs only [go_sem,zgG] at this;simp -implicitDefEqProofs only [go_sem,zgG,ilt a,zy a,ro,yc,o,q,za a p.ops,this]
theorem zBm : ∀ (d k : Nat) (acc : List Use) (a0 a2 a4 a6 a7 a8 a9 h e a c i g : V),f.blocks.length - k = d → k ≤ f.blocks.length → acc.length + ((f.blocks.drop k).map fun b => b.phis.length + b.ops.length).sum ≤ 4294967296 →
  exec T zcN ⟨[a0,.one (.ptr 0 0 0 0),a2,.one (.ap 1 0 (acc.map rU)),a4,vI k,a6,a7,a8,a9,h,e,a,c,i,g],zgG f acc.length [],0,0⟩ =
   some (.exit 2,⟨[vU,vU,vU,.one (.ap 1 0 ((acc ++ zaa k (f.blocks.drop k)).map rU)),vU,vU,vU,vU,vU,vU,vU,vU,vU,vU,vU,vU],zgG f (acc ++ zaa k (f.blocks.drop k)).length [],0,0⟩):=by
 intro d
 induction d with
 | zero =>
   intro k acc a0 a2 a4 a6 a7 a8 a9 h e a c i g v w s;have j : k = f.blocks.length:=(by omega);subst j;rw [xl zcN rfl,ze0];simp -implicitDefEqProofs only [go_sem,zgG,ye,yc,yb,zaa,ym]
 | succ d ih =>
   intro k acc a0 a2 a4 a6 a7 a8 a9 h e a c i g v w s;have j : k < f.blocks.length:=(by omega);have hd : f.blocks.drop k = f.blocks[k] :: f.blocks.drop (k + 1):=ya j;obtain ⟨b,m⟩ : ∃ b,b = f.blocks[k]:=⟨_,rfl⟩;have p:=hf.block _ (yk j);have u:=zy (r:=rb) j;rw [hd,List.map_cons,List.sum_cons] at s;rw [← m] at p u s;have t : (zcZ (k : Int) b.phis).length = b.phis.length:=(by simp [zcZ]);have lo:=zjJ (k : Int) b.ops 0;have n:=fun a0 a2 a4 a8 a9 h e a c i g => zz1 f hf b p k b.phis.length 0 acc a0 a2 a4 a8 a9 h e a c i g (by omega) (by omega) (by omega);have l:=fun a0 a2 a4 a7 a9 h e a c i g => zBy f hf b p k b.ops.length 0 (acc ++ zcZ k b.phis) a0 a2 a4 a7 a9 h e a c i g (by omega) (by omega) (by rw [yd,t]; omega);have:=ih (k + 1) (acc ++ zcZ k b.phis ++ zdP k 0 b.ops) vU vU vU vU vU vU vU vU vU vU vU vU vU (by omega) (by omega) (by rw [yd,yd,t]; omega);simp only [yf,yi] at n l;rw [xl zcN rfl,ze0,hd,zaa,← m];rw [yh,yh] at this;rw [yh] at l;obtain ⟨a1,q⟩ : ∃ a1,a1 = acc ++ zcZ (k : Int) b.phis:=⟨_,rfl⟩;obtain ⟨a2,o⟩ : ∃ a2,a2 = acc ++ (zcZ (k : Int) b.phis ++ zdP (k : Int) 0 b.ops):=⟨_,rfl⟩;simp only [← q] at n l;simp only [← o] at l this;simp -implicitDefEqProofs only [go_sem,zgG] at this n l;simp -implicitDefEqProofs only [go_sem,zgG,ilt j,u,rb,yc,n,l,za j hf.blocks,this]
end
end AC

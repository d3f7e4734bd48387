/- A part of the proof of SchedDepth. Conditions: none. -/
import Derived.Test.YtmkncmffaaninaaGreatDAU
import Derived.Test.YtmkncmffaaninaaGreatDAT
set_option linter.unusedVariables false
set_option linter.unusedSimpArgs false
set_option linter.unusedSectionVars false
open List renaming drop_eq_getElem_cons → ya,drop_length → yb,length_map → yc,length_append → yd,length_cons → yg,append_assoc → yh,drop_zero → yi,getElem_mem → yk,singleton_append → yl,append_nil → ym,length_nil → yn,map_nil → yr,map → ys
open Int renaming lt_irrefl → ye,natCast_zero → yf,natCast_nonneg → yo,toNat_natCast → yp
open Nat renaming le_add_right → yj,zero_add → yq
namespace AC
open Go Go.A Go.A.Lex
theorem ztU {t : List Int} {a : Int} (h0 : ¬ a < 0) (h1 : ¬ (t.length : Int) ≤ a) : (t.map ri)[a.toNat]? = some [.lit (.int .i64 (tr t a))]:=by
 have : a.toNat < t.length:=by omega
 rw [zp this]
 simp [tr,this,ri]
theorem zwl (t : List Int) (hl : t.length ≤ 4294967296) : ∀ (d k : Nat) (a : Int) (a2 a3 a6 a7 a8 : V),t.length - k = d → k ≤ t.length →
  exec T zhw ⟨[vIs t,vI a,a2,a3,vI t.length,vI k,a6,a7,a8],[],0,0⟩ =
   some (match zX t d k a with
    | none => (.exit 0,⟨[vU,vU,vU,vU,vU,vU,vU,vU,vU],[],0,0⟩)
    | some n => (.ret,⟨[vU,vU,vI n,vU,vU,vU,vU,vU,vU],[],0,0⟩)):=by
 intro d
 induction d with
 | zero =>
   intro k a a2 a3 a6 a7 a8 h1 h2
   have hk : k = t.length:=by omega
   subst hk
   rw [xl zhw rfl,zjK]
   simp -implicitDefEqProofs only [go_sem,ye,zX]
 | succ d ih =>
   intro k a a2 a3 a6 a7 a8 h1 h2
   have hk : k < t.length:=by omega
   rw [xl zhw rfl,zjK,zX]
   by_cases c1 : a < 0
   ·simp -implicitDefEqProofs only [go_sem,ilt hk,c1]
   by_cases c2 : (t.length : Int) ≤ a
   ·simp -implicitDefEqProofs only [go_sem,ilt hk,c1,c2]
   have c0 : 0 ≤ a:=by omega
   have c3 : a < (t.length : Int):=by omega
   by_cases c4 : tr t a = -1
   ·simp -implicitDefEqProofs only [go_sem,ilt hk,c0,c1,c2,c3,ztU c1 c2,c4]
   ·have:=ih (k + 1) (tr t a) vU vU vU vU vU (by omega) (by omega)
    simp -implicitDefEqProofs only [go_sem] at this
    simp -implicitDefEqProofs only [go_sem,ilt hk,c0,c1,c2,c3,ztU c1 c2,c4,za hk hl]
    rw [this]
    rfl
@[go_sem] theorem zkm (t : List Int) (a : Int) (hl : t.length ≤ 4294967296) : call T 250 [vIs t,vI a] [] = some (vI (zE t a),[]):=by
  rw [ze (fn:=zkV) rfl]
  have h:=fun a2 a3 a6 a7 a8 => zwl t hl t.length 0 a a2 a3 a6 a7 a8 (by omega) (by omega)
  simp only [yf] at h
  cases e : zX t t.length 0 a <;> simp -implicitDefEqProofs only [go_sem,e] at h <;> simp -implicitDefEqProofs only [go_sem,zkV,h,zE,e,Option.getD_none,Option.getD_some]
theorem zwy (t : List Int) (hl : t.length ≤ 4294967296) : ∀ (d k n : Nat) (a1 a3 a4 a8 a9 a10 : V),t.length - k = d → k ≤ t.length → n ≤ k →
  exec T zhh ⟨[vIs t,a1,vI n,a3,a4,vIs t,vI t.length,vI k,a8,a9,a10],[],0,0⟩ =
   some (match zaE t k n (t.drop k) with
    | none => (.ret,⟨[vU,vB false,vU,vU,vU,vU,vU,vU,vU,vU,vU],[],0,0⟩)
    | some n => (.exit 0,⟨[vU,vU,vI n,vU,vU,vU,vU,vU,vU,vU,vU],[],0,0⟩)):=by
 intro d
 induction d with
 | zero =>
   intro k n a1 a3 a4 a8 a9 a10 h1 h2 h3
   have hk : k = t.length:=by omega
   subst hk
   rw [xl zhh rfl,zjM]
   simp -implicitDefEqProofs only [go_sem,ye,yb,zaE]
 | succ d ih =>
   intro k n a1 a3 a4 a8 a9 a10 h1 h2 h3
   have hk : k < t.length:=by omega
   have hd : t.drop k = t[k] :: t.drop (k + 1):=ya hk
   have hc:=zkm t k hl
   have hn:=za (k:=n) (n:=t.length) (by omega) hl
   rw [xl zhh rfl,zjM,hd,zaE]
   simp -implicitDefEqProofs only [go_sem] at hc
   by_cases c1 : t[k] = -2
   ·have:=ih (k + 1) n vU vU vU vU vU vU (by omega) (by omega) (by omega)
    simp -implicitDefEqProofs only [go_sem] at this
    simp -implicitDefEqProofs only [go_sem,ilt hk,zp hk,ri,c1,za hk hl]
    rw [this]
    all_goals rfl
   ·by_cases c2 : t[k] = -1
    ·by_cases c3 : zE t k < 0
     ·simp -implicitDefEqProofs only [go_sem,ilt hk,zp hk,ri,c1,c2,hc,c3,hn]
     ·have:=ih (k + 1) (n + 1) vU vU vU vU vU vU (by omega) (by omega) (by omega)
      simp -implicitDefEqProofs only [go_sem] at this
      simp -implicitDefEqProofs only [go_sem,ilt hk,zp hk,ri,c1,c2,hc,c3,hn,za hk hl]
      rw [this]
      all_goals rfl
    ·by_cases c3 : zE t k < 0
     ·simp -implicitDefEqProofs only [go_sem,ilt hk,zp hk,ri,c1,c2,hc,c3]
     ·have:=ih (k + 1) n vU vU vU vU vU vU (by omega) (by omega) (by omega)
      simp -implicitDefEqProofs only [go_sem] at this
      simp -implicitDefEqProofs only [go_sem,ilt hk,zp hk,ri,c1,c2,hc,c3,za hk hl]
      rw [this]
      all_goals rfl
@[go_sem] theorem zxg (t : List Int) (hl : t.length ≤ 4294967296) : call T 248 [vIs t] [] = some (vB (zgp t),[]):=by
  rw [ze (fn:=zgN) rfl]
  have h:=fun a1 a3 a4 a8 a9 a10 => zwy t hl t.length 0 0 a1 a3 a4 a8 a9 a10 (by omega) (by omega) (by omega)
  simp only [yf,yi] at h
  cases e : zaE t 0 0 t with
  | none =>
    simp -implicitDefEqProofs only [go_sem,e] at h
    simp -implicitDefEqProofs only [go_sem,zgN,h,zgp,e]
    rfl
  | some n =>
    simp -implicitDefEqProofs only [go_sem,e] at h
    by_cases c : n = 1
    ·subst c
     simp -implicitDefEqProofs only [go_sem,zgN,h,zgp,e]
     rfl
    ·have c' : ¬ (n : Int) = 1:=by omega
     have c2 : (some n == some 1) = false:=by simpa using c
     simp -implicitDefEqProofs only [go_sem,zgN,h,zgp,e,c',c2]
theorem zr5 (t : List Int) (a : Int) (hl : t.length ≤ 4294967296) (r : zd) : call T 249 [vI a,.one (.ptr 0 0 0 0)] (.cells 0 1 [[.f (eI t)]] :: r) = some (vB (decide (zE t a < 0)),.cells 0 1 [[.f (eI t)]] :: r):=by
 rw [ze (fn:=zmU) rfl]
 have h:=zkm t a hl
 simp -implicitDefEqProofs only [go_sem] at h
 simp -implicitDefEqProofs only [go_sem,zmU,h]
theorem zuO (t l : List Int) (hl : t.length ≤ 4294967296) (hll : l.length ≤ 4294967296) : call T 232 [vIs t,vIs l] [] = some (vB (inS t l),[]):=by
 rw [ze (fn:=zrq) rfl]
 have hc:=zaQ l (fun a => decide (zE t a < 0)) 249 [] [.ptr 0 0 0 0] [.cells 0 1 [[.f (eI t)]]] hll (fun x _ => zr5 t x hl [])
 have hr:=zxg t hl
 simp -implicitDefEqProofs only [go_sem] at hc
 cases c : zgp t <;> simp -implicitDefEqProofs only [go_sem,c] at hr <;> simp -implicitDefEqProofs only [go_sem,zrq,hr,c,hc,inS]
theorem znK (t : List Int) (a b : Int) (hl : t.length ≤ 4294967296) : call T 232 [vIs t,vL [[ei a],[ei b]]] [] = some (vB (inS t [a,b]),[]):=zuO t [a,b] hl (by simp)
theorem zyj (t : List Int) (hl : t.length ≤ 4294967296) (hr : zgp t = true) : ∀ (d : Nat) (a b : Int) (a3 a4 a5 a6 : V),0 ≤ zE t a → 0 ≤ zE t b → zE t a + zE t b ≤ d →
  exec T ziP ⟨[vIs t,vI a,vI b,a3,a4,a5,a6],[],0,0⟩ = some (.exit 0,⟨[vU,vI (ziD t d a b),vU,vU,vU,vU,vU],[],0,0⟩):=by
 intro d
 induction d with
 | zero =>
   intro a b a3 a4 a5 a6 ha hb hd
   have ia:=zgJ ha
   have ib:=zgJ hb
   have e : a = b:=ztf hr ia ib (zg8 (by omega)) (zg8 (by omega))
   subst e
   rw [xl ziP rfl,zlg]
   simp -implicitDefEqProofs only [go_sem,ziD]
 | succ d ih =>
   intro a b a3 a4 a5 a6 ha hb hd
   obtain ⟨a0,a1⟩:=zgJ ha
   obtain ⟨b0,b1⟩:=zgJ hb
   have ca:=zkm t a hl
   have cb:=zkm t b hl
   simp -implicitDefEqProofs only [go_sem] at ca cb
   rw [xl ziP rfl,zlg,ziD]
   by_cases c1 : a = b
   ·subst c1
    simp -implicitDefEqProofs only [go_sem]
   by_cases c2 : zE t b ≤ zE t a
   ·have hne : tr t a ≠ -1:=fun e => by
     have h1:=zjZ a0 a1 e
     exact c1 (ztf hr ⟨a0,a1⟩ ⟨b0,b1⟩ e (zg8 (by omega)))
    have hs:=ze9 ha hne
    have:=ih (tr t a) b vU vU vU vU (by omega) hb (by omega)
    simp -implicitDefEqProofs only [go_sem] at this
    simp -implicitDefEqProofs only [go_sem,c1,c2,ca,cb,a0,ztU (t:=t) (a:=a) (by omega) (by omega),this]
   ·have hne : tr t b ≠ -1:=fun e => by
     have h1:=zjZ b0 b1 e
     omega
    have hs:=ze9 hb hne
    have:=ih a (tr t b) vU vU vU vU ha (by omega) (by omega)
    simp -implicitDefEqProofs only [go_sem] at this
    simp -implicitDefEqProofs only [go_sem,c1,c2,ca,cb,b0,ztU (t:=t) (a:=b) (by omega) (by omega),this]
@[go_sem] theorem zyG (t : List Int) (a b : Int) (hl : t.length ≤ 4294967296) : call T 233 [vIs t,vI a,vI b] [] = some (vI (zwH t a b),[]):=by
  rw [ze (fn:=zkc) rfl]
  have hi:=znK t a b hl
  cases c : inS t [a,b]
  ·simp -implicitDefEqProofs only [go_sem,c] at hi
   simp -implicitDefEqProofs only [go_sem,zkc,hi,c,zwH]
  ·obtain ⟨h1,h2,h3⟩:=zDt c
   have h:=fun a3 a4 a5 a6 => zyj t hl h1 (zE t a + zE t b).toNat a b a3 a4 a5 a6 h2 h3 (by omega)
   simp -implicitDefEqProofs only [go_sem,c] at hi h
   simp -implicitDefEqProofs only [go_sem,zkc,hi,c,zwH,h]
@[go_sem] theorem zoS (t : List Int) (a b : Int) (hl : t.length ≤ 4294967296) : call T 196 [vIs t,vI a,vI b] [] = some (vB (zky t a b),[]):=by
  rw [ze (fn:=zm6) rfl]
  have hi:=znK t a b hl
  have hm:=zyG t a b hl
  simp -implicitDefEqProofs only [go_sem] at hm
  cases c : inS t [a,b] <;> simp -implicitDefEqProofs only [go_sem,c] at hi <;> simp -implicitDefEqProofs only [go_sem,zm6,hi,hm,c,zky]
end AC
namespace AC
open Go Go.A Go.A.Lex
structure Use where
 v : Int
 shape : Int × Int
 block : Int
 at' : Int
abbrev zlA : Int:=1048576
def zU (ask : Use → Int) : List Use → Int
 | [] => 0
 | u :: r => if ask u = 0 then zU ask r else ask u
theorem zgB (ask : Use → Int) : ∀ (a b : List Use),zU ask (a ++ b) = if zU ask a = 0 then zU ask b else zU ask a
 | [],b => by simp [zU]
 | u :: r,b => by
   simp only [List.cons_append,zU,zgB ask r b]
   by_cases h : ask u = 0 <;> simp [h]
def zF (p : PPhi) (k : Nat) : List Int → List Use
 | [] => []
 | v :: r => ⟨v,(p.bits,1),p.src.getD k 0,zlA⟩ :: zF p (k + 1) r
def zfO (p : PPhi) : List Use:=zF p 0 p.args
def zO (o : POp) (i at' : Int) (k : Nat) : List (Int × Int) → List Use
 | [] => []
 | s :: r => ⟨o.args.getD k 0,s,i,at'⟩ :: zO o i at' (k + 1) r
def zkC (o : POp) (i at' : Int) : List Use:=zO o i at' 0 (zaX o)
def zu (i : Int) (k : Nat) : List POp → List Use
 | [] => []
 | o :: r => zkC o i (k : Int) ++ zu i (k + 1) r
def zaj (l : List PPhi) : List Use:=l.flatMap zfO
def ziT (f : PFunc) (b : PBlock) : Int:=if b.kind = 0 then f.ret else if b.kind = 2 then 1 else 0
def zbp (f : PFunc) (i : Int) (b : PBlock) : List Use:=if ziT f b = 0 then [] else [⟨b.arg,(ziT f b,1),i,zlA⟩]
def zg3 (f : PFunc) (i : Int) (b : PBlock) : List Use:=zaj b.phis ++ (zu i 0 b.ops ++ zbp f i b)
def zaB (f : PFunc) (k : Nat) : List PBlock → List Use
 | [] => []
 | b :: r => zg3 f (k : Int) b ++ zaB f (k + 1) r
def ze4 (f : PFunc) : List Use:=zaB f 0 f.blocks
abbrev zxE (f : PFunc) (level : Int) (x y z d : C) : Ob:=.cells 0 8 [[.f (eI f.params),.f (ei f.ret),.f (.sl (f.blocks.map rb)),.f (ei level),x,y,z,d]]
theorem ziI (b : Int) : call T 205 [vI b] [] = some (.agg [.f (ei b),.f (ei 1)],[]):=by
 rw [ze (fn:=zhO) rfl]
 simp -implicitDefEqProofs only [go_sem,zhO]
section
variable (f : PFunc) (hf : okF f) (level : Int) (x y z dd : C) (g : Nat) (caps : List C) (σ : zd) (hck : σ[1]? = some (zxE f level x y z dd)) (hσ : Ok σ) (hcaps : C.lts σ.length caps = true) (ask : Use → Int)
 (hask : ∀ (r : zd) (u : Use),Obs.lt (σ.length + r.length) r = true → call T g (vI u.v :: .agg [.f (ei u.shape.1),.f (ei u.shape.2)] :: vI u.block :: vI u.at' :: caps.map V.one) (σ ++ r) = some (vI (ask u),σ ++ r))
abbrev zAu : V:=.one (.fn g [] caps)
include hck hσ hcaps hask
theorem zDu (b : PBlock) (p : PPhi) (hb : okB b) (hp : p ∈ b.phis) (hlen : p.args.length = p.src.length) (i kp : Int) : ∀ (d k : Nat) (a2 a7 a8 a9 a10 a11 a12 a13 a17 a21 a25 a26 a27 a28 a29 a30 a31 a32 a33 a34 a35 a36 a37 : V),p.args.length - k = d → k ≤ p.args.length →
  exec T zcw ⟨[.one (.ptr 1 0 0 0),zAu g caps,a2,vI 0,vI i,.one (.ptr σ.length 0 0 0),.one (.ptr (σ.length + 1) 0 0 0),a7,a8,a9,a10,a11,a12,a13,vL (f.blocks.map rb),vI f.blocks.length,vI i,a17,vL (b.phis.map rp),vI b.phis.length,vI kp,a21,vIs p.args,vI p.args.length,vI k,a25,a26,a27,a28,a29,a30,a31,a32,a33,a34,a35,a36,a37],σ ++ [.cells 0 5 [zq b],.cells 0 4 [zub p]],σ.length,σ.length⟩ =
   some (if zU ask (zF p k (p.args.drop k)) = 0 then (.exit 4,⟨[.one (.ptr 1 0 0 0),zAu g caps,vU,vI 0,vI i,.one (.ptr σ.length 0 0 0),vU,vU,vU,vU,vU,vU,vU,vU,vL (f.blocks.map rb),vI f.blocks.length,vI i,vU,vL (b.phis.map rp),vI b.phis.length,vI kp,vU,vU,vU,vU,vU,vU,vU,vU,vU,vU,vU,vU,vU,vU,vU,vU,vU],σ ++ [.cells 0 5 [zq b],.cells 0 4 [zub p]],σ.length,σ.length⟩)
    else (.goto 0,⟨[vU,vU,vU,vI (zU ask (zF p k (p.args.drop k))),vU,vU,vU,vU,vU,vU,vU,vU,vU,vU,vU,vU,vU,vU,vU,vU,vU,vU,vU,vU,vU,vU,vU,vU,vU,vU,vU,vU,vU,vU,vU,vU,vU,vU],σ,σ.length,σ.length⟩)):=by
 intro d
 have hcap:=fun k => zeW (yj σ.length k) caps hcaps
 have hl : p.args.length ≤ 4294967296:=(hb.phi p hp).2
 induction d with
 | zero =>
   intro k a2 a7 a8 a9 a10 a11 a12 a13 a17 a21 a25 a26 a27 a28 a29 a30 a31 a32 a33 a34 a35 a36 a37 h1 h2
   have hk : k = p.args.length:=by omega
   subst hk
   rw [xl zcw rfl,zea]
   simp -implicitDefEqProofs only [go_sem,ye,yb,zF,zU]
 | succ d ih =>
   intro k a2 a7 a8 a9 a10 a11 a12 a13 a17 a21 a25 a26 a27 a28 a29 a30 a31 a32 a33 a34 a35 a36 a37 h1 h2
   have hk : k < p.args.length:=by omega
   have hk2 : k < p.src.length:=by omega
   have hd : p.args.drop k = p.args[k] :: p.args.drop (k + 1):=ya hk
   have hsc:=ziI p.bits
   have ha:=hask [.cells 0 5 [zq b],.cells 0 4 [zub p]] ⟨p.args[k],(p.bits,1),p.src[k],zlA⟩ (by simp -implicitDefEqProofs only [go_sem])
   have hg : p.src.getD k 0 = p.src[k]:=by simp [hk2]
   rw [xl zcw rfl,zea,hd,zF,zU,hg]
   simp -implicitDefEqProofs only [go_sem,zlA] at hsc ha
   by_cases c : ask ⟨p.args[k],(p.bits,1),p.src[k],zlA⟩ = 0
   ·have c' : ask { v:=p.args[k],shape:=(p.bits,1),block:=p.src[k],at':=1048576 } = 0:=c
    have:=ih (k + 1) vU vU vU vU vU vU vU vU vU vU vU vU vU vU vU vU vU vU vU vU vU vU vU (by omega) (by omega)
    simp -implicitDefEqProofs only [go_sem] at this
    simp -implicitDefEqProofs only [go_sem,ilt hk,zp hk,zp hk2,ri,hsc,ha,c',za hk hl,zlA,hcap,Ok.up hσ,zh3 hck,Ok.at hσ,zhL hck,this]
   ·have c' : ¬ ask { v:=p.args[k],shape:=(p.bits,1),block:=p.src[k],at':=1048576 } = 0:=c
    simp -implicitDefEqProofs only [go_sem,ilt hk,zp hk,zp hk2,ri,hsc,ha,c',zlA,Ok.at hσ]
def zjf (b : PBlock) : Prop:=(∀ p ∈ b.phis,p.args.length = p.src.length) ∧ ∀ o ∈ b.ops,(zaX o).length ≤ o.args.length
theorem zDf (b : PBlock) (hb : okB b) (hab : zjf b) (i : Int) : ∀ (d k : Nat) (a2 a6 a7 a8 a9 a10 a11 a12 a13 a17 a21 a22 a23 a24 a25 a26 a27 a28 a29 a30 a31 a32 a33 a34 a35 a36 a37 : V),b.phis.length - k = d → k ≤ b.phis.length →
  exec T zcm ⟨[.one (.ptr 1 0 0 0),zAu g caps,a2,vI 0,vI i,.one (.ptr σ.length 0 0 0),a6,a7,a8,a9,a10,a11,a12,a13,vL (f.blocks.map rb),vI f.blocks.length,vI i,a17,vL (b.phis.map rp),vI b.phis.length,vI k,a21,a22,a23,a24,a25,a26,a27,a28,a29,a30,a31,a32,a33,a34,a35,a36,a37],σ ++ [.cells 0 5 [zq b]],σ.length,σ.length⟩ =
   some (if zU ask (zaj (b.phis.drop k)) = 0 then (.exit 2,⟨[.one (.ptr 1 0 0 0),zAu g caps,vU,vI 0,vI i,.one (.ptr σ.length 0 0 0),vU,vU,vU,vU,vU,vU,vU,vU,vL (f.blocks.map rb),vI f.blocks.length,vI i,vU,vU,vU,vU,vU,vU,vU,vU,vU,vU,vU,vU,vU,vU,vU,vU,vU,vU,vU,vU,vU],σ ++ [.cells 0 5 [zq b]],σ.length,σ.length⟩)
    else (.goto 0,⟨[vU,vU,vU,vI (zU ask (zaj (b.phis.drop k))),vU,vU,vU,vU,vU,vU,vU,vU,vU,vU,vU,vU,vU,vU,vU,vU,vU,vU,vU,vU,vU,vU,vU,vU,vU,vU,vU,vU,vU,vU,vU,vU,vU,vU],σ,σ.length,σ.length⟩)):=by
 intro d
 have hcap:=fun k => zeW (yj σ.length k) caps hcaps
 induction d with
 | zero =>
   intro k a2 a6 a7 a8 a9 a10 a11 a12 a13 a17 a21 a22 a23 a24 a25 a26 a27 a28 a29 a30 a31 a32 a33 a34 a35 a36 a37 h1 h2
   have hk : k = b.phis.length:=by omega
   subst hk
   rw [xl zcm rfl,zdZ]
   simp -implicitDefEqProofs only [go_sem,ye,yb,zaj,List.flatMap_nil,zU]
 | succ d ih =>
   intro k a2 a6 a7 a8 a9 a10 a11 a12 a13 a17 a21 a22 a23 a24 a25 a26 a27 a28 a29 a30 a31 a32 a33 a34 a35 a36 a37 h1 h2
   have hk : k < b.phis.length:=by omega
   have hd : b.phis.drop k = b.phis[k] :: b.phis.drop (k + 1):=ya hk
   have hm:=yk hk
   have h5:=fun a2 a7 a8 a9 a10 a11 a12 a13 a17 a21 a25 a26 a27 a28 a29 a30 a31 a32 a33 a34 a35 a36 a37 => zDu f level x y z dd g caps σ hck hσ hcaps ask hask b b.phis[k] hb hm (hab.1 _ hm) i k b.phis[k].args.length 0 a2 a7 a8 a9 a10 a11 a12 a13 a17 a21 a25 a26 a27 a28 a29 a30 a31 a32 a33 a34 a35 a36 a37 (by omega) (by omega)
   have e : zaj (b.phis[k] :: b.phis.drop (k + 1)) = zfO b.phis[k] ++ zaj (b.phis.drop (k + 1)):=by rw [zaj,List.flatMap_cons]; rfl
   rw [xl zcm rfl,zdZ,hd,e,zgB]
   simp only [yi,yf] at h5
   have e2 : zF b.phis[k] 0 b.phis[k].args = zfO b.phis[k]:=rfl
   rw [e2] at h5
   by_cases c : zU ask (zfO b.phis[k]) = 0
   ·have:=ih (k + 1) vU vU vU vU vU vU vU vU vU vU vU vU vU vU vU vU vU vU vU vU vU vU vU vU vU vU vU (by omega) (by omega)
    simp -implicitDefEqProofs only [go_sem,c] at this h5
    simp -implicitDefEqProofs only [go_sem,ilt hk,zp hk,rp,h5,c,za hk hb.phis,hcap,Ok.up hσ,zh3 hck,Ok.at hσ,zhL hck,this]
   ·simp -implicitDefEqProofs only [go_sem,c] at h5
    simp -implicitDefEqProofs only [go_sem,ilt hk,zp hk,rp,h5,c]
theorem zDC (b : PBlock) (o : POp) (hb : okB b) (ho : o ∈ b.ops) (hlen : (zaX o).length ≤ o.args.length) (i ko : Int) : ∀ (d k : Nat) (a2 a6 a7 a8 a11 a12 a13 a17 a18 a19 a20 a21 a22 a23 a24 a25 a26 a30 a34 a35 a36 a37 : V),(zaX o).length - k = d → k ≤ (zaX o).length →
  exec T zb2 ⟨[.one (.ptr 1 0 0 0),zAu g caps,a2,vI 0,vI i,.one (.ptr σ.length 0 0 0),a6,a7,a8,vI ko,.one (.ptr (σ.length + 1) 0 0 0),a11,a12,a13,vL (f.blocks.map rb),vI f.blocks.length,vI i,a17,a18,a19,a20,a21,a22,a23,a24,a25,a26,vL (b.ops.map ro),vI b.ops.length,vI ko,a30,vSs (zaX o),vI (zaX o).length,vI k,a34,a35,a36,a37],σ ++ [.cells 0 5 [zq b],.cells 0 6 [cOp o]],σ.length,σ.length⟩ =
   some (if zU ask (zO o i ko k ((zaX o).drop k)) = 0 then (.exit 8,⟨[.one (.ptr 1 0 0 0),zAu g caps,vU,vI 0,vI i,.one (.ptr σ.length 0 0 0),vU,vU,vU,vU,vU,vU,vU,vU,vL (f.blocks.map rb),vI f.blocks.length,vI i,vU,vU,vU,vU,vU,vU,vU,vU,vU,vU,vL (b.ops.map ro),vI b.ops.length,vI ko,vU,vU,vU,vU,vU,vU,vU,vU],σ ++ [.cells 0 5 [zq b],.cells 0 6 [cOp o]],σ.length,σ.length⟩)
    else (.goto 0,⟨[vU,vU,vU,vI (zU ask (zO o i ko k ((zaX o).drop k))),vU,vU,vU,vU,vU,vU,vU,vU,vU,vU,vU,vU,vU,vU,vU,vU,vU,vU,vU,vU,vU,vU,vU,vU,vU,vU,vU,vU,vU,vU,vU,vU,vU,vU],σ,σ.length,σ.length⟩)):=by
 intro d
 have hcap:=fun k => zeW (yj σ.length k) caps hcaps
 have hl : (zaX o).length ≤ 4294967296:=by have:=(hb.op o ho).2; omega
 induction d with
 | zero =>
   intro k a2 a6 a7 a8 a11 a12 a13 a17 a18 a19 a20 a21 a22 a23 a24 a25 a26 a30 a34 a35 a36 a37 h1 h2
   have hk : k = (zaX o).length:=by omega
   subst hk
   rw [xl zb2 rfl,zdU]
   simp -implicitDefEqProofs only [go_sem,ye,yb,zO,zU]
 | succ d ih =>
   intro k a2 a6 a7 a8 a11 a12 a13 a17 a18 a19 a20 a21 a22 a23 a24 a25 a26 a30 a34 a35 a36 a37 h1 h2
   have hk : k < (zaX o).length:=by omega
   have hk2 : k < o.args.length:=by omega
   have hd : (zaX o).drop k = (zaX o)[k] :: (zaX o).drop (k + 1):=ya hk
   have ha:=hask [.cells 0 5 [zq b],.cells 0 6 [cOp o],.cells 0 2 [[.f (ei (zaX o)[k].1),.f (ei (zaX o)[k].2)]]] ⟨o.args[k],(zaX o)[k],i,ko⟩ (by simp -implicitDefEqProofs only [go_sem])
   have hg : o.args.getD k 0 = o.args[k]:=by simp [hk2]
   rw [xl zb2 rfl,zdU,hd,zO,zU,hg]
   simp -implicitDefEqProofs only [go_sem] at ha
   by_cases c : ask ⟨o.args[k],(zaX o)[k],i,ko⟩ = 0
   ·have:=ih (k + 1) vU vU vU vU vU vU vU vU vU vU vU vU vU vU vU vU vU vU vU vU vU vU (by omega) (by omega)
    simp -implicitDefEqProofs only [go_sem,c] at this ha
    simp -implicitDefEqProofs only [go_sem,ilt hk,zp hk,zp hk2,ri,rs,ha,c,za hk hl,hcap,Ok.up hσ,zh3 hck,Ok.at hσ,zhL hck,this]
   ·simp -implicitDefEqProofs only [go_sem,ilt hk,zp hk,zp hk2,ri,rs,ha,c,Ok.at hσ]
theorem zDc (b : PBlock) (hb : okB b) (hab : zjf b) (i : Int) : ∀ (d k : Nat) (a2 a6 a7 a8 a9 a10 a11 a12 a13 a17 a18 a19 a20 a21 a22 a23 a24 a25 a26 a30 a31 a32 a33 a34 a35 a36 a37 : V),b.ops.length - k = d → k ≤ b.ops.length →
  exec T zbU ⟨[.one (.ptr 1 0 0 0),zAu g caps,a2,vI 0,vI i,.one (.ptr σ.length 0 0 0),a6,a7,a8,a9,a10,a11,a12,a13,vL (f.blocks.map rb),vI f.blocks.length,vI i,a17,a18,a19,a20,a21,a22,a23,a24,a25,a26,vL (b.ops.map ro),vI b.ops.length,vI k,a30,a31,a32,a33,a34,a35,a36,a37],σ ++ [.cells 0 5 [zq b]],σ.length,σ.length⟩ =
   some (if zU ask (zu i k (b.ops.drop k)) = 0 then (.exit 6,⟨[.one (.ptr 1 0 0 0),zAu g caps,vU,vI 0,vI i,.one (.ptr σ.length 0 0 0),vU,vU,vU,vU,vU,vU,vU,vU,vL (f.blocks.map rb),vI f.blocks.length,vI i,vU,vU,vU,vU,vU,vU,vU,vU,vU,vU,vU,vU,vU,vU,vU,vU,vU,vU,vU,vU,vU],σ ++ [.cells 0 5 [zq b]],σ.length,σ.length⟩)
    else (.goto 0,⟨[vU,vU,vU,vI (zU ask (zu i k (b.ops.drop k))),vU,vU,vU,vU,vU,vU,vU,vU,vU,vU,vU,vU,vU,vU,vU,vU,vU,vU,vU,vU,vU,vU,vU,vU,vU,vU,vU,vU,vU,vU,vU,vU,vU,vU],σ,σ.length,σ.length⟩)):=by
 intro d
 have hcap:=fun k => zeW (yj σ.length k) caps hcaps
 induction d with
 | zero =>
   intro k a2 a6 a7 a8 a9 a10 a11 a12 a13 a17 a18 a19 a20 a21 a22 a23 a24 a25 a26 a30 a31 a32 a33 a34 a35 a36 a37 h1 h2
   have hk : k = b.ops.length:=by omega
   subst hk
   rw [xl zbU rfl,zeo]
   simp -implicitDefEqProofs only [go_sem,ye,yb,zu,zU]
 | succ d ih =>
   intro k a2 a6 a7 a8 a9 a10 a11 a12 a13 a17 a18 a19 a20 a21 a22 a23 a24 a25 a26 a30 a31 a32 a33 a34 a35 a36 a37 h1 h2
   have hk : k < b.ops.length:=by omega
   have hd : b.ops.drop k = b.ops[k] :: b.ops.drop (k + 1):=ya hk
   have hm:=yk hk
   have ht:=zoo b.ops[k] (hb.op _ hm).1 (hb.op _ hm).2
   have h7:=fun a2 a6 a7 a8 a11 a12 a13 a17 a18 a19 a20 a21 a22 a23 a24 a25 a26 a30 a34 a35 a36 a37 => zDC f level x y z dd g caps σ hck hσ hcaps ask hask b b.ops[k] hb hm (hab.2 _ hm) i k (zaX b.ops[k]).length 0 a2 a6 a7 a8 a11 a12 a13 a17 a18 a19 a20 a21 a22 a23 a24 a25 a26 a30 a34 a35 a36 a37 (by omega) (by omega)
   rw [xl zbU rfl,zeo,hd,zu,zgB]
   simp only [yi,yf] at h7
   have e2 : zO b.ops[k] i k 0 (zaX b.ops[k]) = zkC b.ops[k] i k:=rfl
   rw [e2] at h7
   simp -implicitDefEqProofs only [go_sem] at ht
   by_cases c : zU ask (zkC b.ops[k] i k) = 0
   ·have:=ih (k + 1) vU vU vU vU vU vU vU vU vU vU vU vU vU vU vU vU vU vU vU vU vU vU vU vU vU vU vU (by omega) (by omega)
    simp -implicitDefEqProofs only [go_sem,c] at this h7
    simp -implicitDefEqProofs only [go_sem,ilt hk,zp hk,ro,ht,h7,c,za hk hb.ops,hcap,Ok.up hσ,zh3 hck,Ok.at hσ,zhL hck,this]
   ·simp -implicitDefEqProofs only [go_sem,c] at h7
    simp -implicitDefEqProofs only [go_sem,ilt hk,zp hk,ro,ht,h7,c]
theorem zDv (hf : okF f) (hab : ∀ b ∈ f.blocks,zjf b) : ∀ (d k : Nat) (a2 a4 a5 a6 a7 a8 a9 a10 a11 a12 a13 a17 a18 a19 a20 a21 a22 a23 a24 a25 a26 a27 a28 a29 a30 a31 a32 a33 a34 a35 a36 a37 : V),f.blocks.length - k = d → k ≤ f.blocks.length →
  exec T zb1 ⟨[.one (.ptr 1 0 0 0),zAu g caps,a2,vI 0,a4,a5,a6,a7,a8,a9,a10,a11,a12,a13,vL (f.blocks.map rb),vI f.blocks.length,vI k,a17,a18,a19,a20,a21,a22,a23,a24,a25,a26,a27,a28,a29,a30,a31,a32,a33,a34,a35,a36,a37],σ,σ.length,σ.length⟩ =
   some (if zU ask (zaB f k (f.blocks.drop k)) = 0 then (.exit 0,⟨[vU,vU,vU,vI 0,vU,vU,vU,vU,vU,vU,vU,vU,vU,vU,vU,vU,vU,vU,vU,vU,vU,vU,vU,vU,vU,vU,vU,vU,vU,vU,vU,vU,vU,vU,vU,vU,vU,vU],σ,σ.length,σ.length⟩)
    else (.goto 0,⟨[vU,vU,vU,vI (zU ask (zaB f k (f.blocks.drop k))),vU,vU,vU,vU,vU,vU,vU,vU,vU,vU,vU,vU,vU,vU,vU,vU,vU,vU,vU,vU,vU,vU,vU,vU,vU,vU,vU,vU,vU,vU,vU,vU,vU,vU],σ,σ.length,σ.length⟩)):=by
 intro d
 have hcap:=fun k => zeW (yj σ.length k) caps hcaps
 have hlow:=zgg hck
 induction d with
 | zero =>
   intro k a2 a4 a5 a6 a7 a8 a9 a10 a11 a12 a13 a17 a18 a19 a20 a21 a22 a23 a24 a25 a26 a27 a28 a29 a30 a31 a32 a33 a34 a35 a36 a37 h1 h2
   have hk : k = f.blocks.length:=by omega
   subst hk
   rw [xl zb1 rfl,zel]
   simp -implicitDefEqProofs only [go_sem,ye,yb,zaB,zU]
 | succ d ih =>
   intro k a2 a4 a5 a6 a7 a8 a9 a10 a11 a12 a13 a17 a18 a19 a20 a21 a22 a23 a24 a25 a26 a27 a28 a29 a30 a31 a32 a33 a34 a35 a36 a37 h1 h2
   have hk : k < f.blocks.length:=by omega
   have hd : f.blocks.drop k = f.blocks[k] :: f.blocks.drop (k + 1):=ya hk
   have hm:=yk hk
   have hb:=hf.block _ hm
   have h6:=fun a2 a6 a7 a8 a9 a10 a11 a12 a13 a17 a21 a22 a23 a24 a25 a26 a27 a28 a29 a30 a31 a32 a33 a34 a35 a36 a37 => zDf f level x y z dd g caps σ hck hσ hcaps ask hask f.blocks[k] hb (hab _ hm) k f.blocks[k].phis.length 0 a2 a6 a7 a8 a9 a10 a11 a12 a13 a17 a21 a22 a23 a24 a25 a26 a27 a28 a29 a30 a31 a32 a33 a34 a35 a36 a37 (by omega) (by omega)
   have h8:=fun a2 a6 a7 a8 a9 a10 a11 a12 a13 a17 a18 a19 a20 a21 a22 a23 a24 a25 a26 a30 a31 a32 a33 a34 a35 a36 a37 => zDc f level x y z dd g caps σ hck hσ hcaps ask hask f.blocks[k] hb (hab _ hm) k f.blocks[k].ops.length 0 a2 a6 a7 a8 a9 a10 a11 a12 a13 a17 a18 a19 a20 a21 a22 a23 a24 a25 a26 a30 a31 a32 a33 a34 a35 a36 a37 (by omega) (by omega)
   rw [xl zb1 rfl,zel,hd,zaB,zgB,zg3,zgB,zgB]
   simp only [yi,yf] at h6 h8
   by_cases c6 : zU ask (zaj f.blocks[k].phis) = 0
   ·by_cases c8 : zU ask (zu k 0 f.blocks[k].ops) = 0
    ·have:=ih (k + 1) vU vU vU vU vU vU vU vU vU vU vU vU vU vU vU vU vU vU vU vU vU vU vU vU vU vU vU vU vU vU vU vU (by omega) (by omega)
     simp -implicitDefEqProofs only [go_sem,c6,c8] at this h6 h8
     have ha:=fun u => hask [.cells 0 5 [zq f.blocks[k]],.mp [(0,V.one (.f (.lit (.int .i64 f.ret)))),(2,V.one (.f (.lit (.int .i64 1))))]] ⟨f.blocks[k].arg,(u,1),k,zlA⟩ (by simp -implicitDefEqProofs only [go_sem])
     have hsc:=fun u => ziI u
     simp -implicitDefEqProofs only [go_sem,zlA] at ha hsc
     by_cases k0 : f.blocks[k].kind = 0
     ·have k0' : (0 : Int) = f.blocks[k].kind:=k0.symm
      by_cases r0 : f.ret = 0
      ·have eu : zbp f k f.blocks[k] = []:=by simp [zbp,ziT,k0,r0]
       simp -implicitDefEqProofs only [go_sem,ilt hk,zp hk,rb,h6,h8,c6,c8,eu,zU,hlow,hck,eq_true k0',eq_true r0,r0,za hk hf.blocks,hcap,Ok.up hσ,zh3 hck,Ok.at hσ,zhL hck,hcaps,this]
      ·have eu : zbp f k f.blocks[k] = [⟨f.blocks[k].arg,(f.ret,1),k,1048576⟩]:=by simp [zbp,ziT,k0,r0]
       by_cases c : ask ⟨f.blocks[k].arg,(f.ret,1),k,1048576⟩ = 0
       ·simp -implicitDefEqProofs only [go_sem,ilt hk,zp hk,rb,h6,h8,c6,c8,eu,zU,hlow,hck,eq_true k0',r0,hsc,ha,c,za hk hf.blocks,hcap,Ok.up hσ,zh3 hck,Ok.at hσ,zhL hck,hcaps,this]
       ·simp -implicitDefEqProofs only [go_sem,ilt hk,zp hk,rb,h6,h8,c6,c8,eu,zU,hlow,hck,eq_true k0',r0,hsc,ha,c,hcap,Ok.up hσ,zh3 hck,Ok.at hσ,zhL hck,hcaps]
     ·have k0' : ¬ (0 : Int) = f.blocks[k].kind:=fun e => k0 e.symm
      by_cases k2 : f.blocks[k].kind = 2
      ·have k2' : (2 : Int) = f.blocks[k].kind:=k2.symm
       have eu : zbp f k f.blocks[k] = [⟨f.blocks[k].arg,(1,1),k,1048576⟩]:=by simp [zbp,ziT,k0,k2]
       by_cases c : ask ⟨f.blocks[k].arg,(1,1),k,1048576⟩ = 0
       ·simp -implicitDefEqProofs only [go_sem,ilt hk,zp hk,rb,h6,h8,c6,c8,eu,zU,hlow,hck,k0',eq_true k2',hsc,ha,c,za hk hf.blocks,hcap,Ok.up hσ,zh3 hck,Ok.at hσ,zhL hck,hcaps,this]
       ·simp -implicitDefEqProofs only [go_sem,ilt hk,zp hk,rb,h6,h8,c6,c8,eu,zU,hlow,hck,k0',eq_true k2',hsc,ha,c,hcap,Ok.up hσ,zh3 hck,Ok.at hσ,zhL hck,hcaps]
      ·have k2' : ¬ (2 : Int) = f.blocks[k].kind:=fun e => k2 e.symm
       have eu : zbp f k f.blocks[k] = []:=by simp [zbp,ziT,k0,k2]
       simp -implicitDefEqProofs only [go_sem,ilt hk,zp hk,rb,h6,h8,c6,c8,eu,zU,hlow,hck,k0',k2',za hk hf.blocks,hcap,Ok.up hσ,zh3 hck,Ok.at hσ,zhL hck,hcaps,this]
    ·simp -implicitDefEqProofs only [go_sem,c6,c8] at h6 h8
     simp -implicitDefEqProofs only [go_sem,ilt hk,zp hk,rb,h6,h8,c6,c8]
   ·simp -implicitDefEqProofs only [go_sem,c6] at h6
    simp -implicitDefEqProofs only [go_sem,ilt hk,zp hk,rb,h6,c6]
theorem zo5 (hf : okF f) (hab : ∀ b ∈ f.blocks,zjf b) : call T 207 [.one (.ptr 1 0 0 0),zAu g caps] σ = some (vI (zU ask (ze4 f)),σ):=by
 rw [ze (fn:=zcC) rfl]
 have h:=fun a2 a4 a5 a6 a7 a8 a9 a10 a11 a12 a13 a17 a18 a19 a20 a21 a22 a23 a24 a25 a26 a27 a28 a29 a30 a31 a32 a33 a34 a35 a36 a37 => zDv f level x y z dd g caps σ hck hσ hcaps ask hask hf hab f.blocks.length 0 a2 a4 a5 a6 a7 a8 a9 a10 a11 a12 a13 a17 a18 a19 a20 a21 a22 a23 a24 a25 a26 a27 a28 a29 a30 a31 a32 a33 a34 a35 a36 a37 (by omega) (by omega)
 simp only [yi,yf] at h
 have hlow:=zgg hck []
 have e : zaB f 0 f.blocks = ze4 f:=rfl
 rw [e] at h
 by_cases c : zU ask (ze4 f) = 0
 ·simp -implicitDefEqProofs only [go_sem,c] at h
  simp -implicitDefEqProofs only [go_sem,zcC,zdG,zgP,hck,h,c]
 ·simp -implicitDefEqProofs only [go_sem,c] at h
  simp -implicitDefEqProofs only [go_sem,zcC,zgP]
  rw [zdG]
  simp -implicitDefEqProofs only [go_sem,hck,h,zgP]
end
end AC
namespace AC
open Go Go.A Go.A.Lex
theorem zr1 (o : POp) (ho : zuV o) : call T 128 [vOp o] [] = some (vSs (zaX o),[]):=by
 rw [ze (fn:=zbT) rfl]
 have hM:=zlv o ho
 cases hm : zgq o
 ·simp -implicitDefEqProofs only [go_sem,hm] at hM
  simp -implicitDefEqProofs only [go_sem,zbT,zaX,hm,hM,Bool.false_eq_true,yr]
 simp -implicitDefEqProofs only [go_sem,hm] at hM
 have h:=fun a0 a2 a5 a6 a7 a8 a9 a10 a11 a12 a13 a14 a15 a16 a17 => zu1 o ho hm o.args.length 0 a0 a2 a5 a6 a7 a8 a9 a10 a11 a12 a13 a14 a15 a16 a17 (by omega) (by omega)
 rw [zwB hm ho.1.1] at h
 simp only [yf,List.range_zero,yr] at h
 simp -implicitDefEqProofs only [go_sem] at h
 simp -implicitDefEqProofs only [go_sem,zbT,zaX,hm,hM,h]
def rU (u : Use) : List Fz:=[ei u.v,ei u.block,ei u.at',ei u.shape.1,ei u.shape.2]
abbrev vUs (l : List Use) : V:=.one (.f (.sl (l.map rU)))
attribute [go_sem] vUs
def zh (v : Int) : Nat → List Use → Int
 | _,[] => -1
 | k,u :: r => if u.v = v then (k : Int) else zh v (k + 1) r
theorem zwG (l : List Use) (v : Int) (hl : l.length ≤ 4294967296) : ∀ (d k : Nat) (a2 a4 a5 : V),l.length - k = d → k ≤ l.length →
  exec T zcc ⟨[vUs l,vI v,a2,vI k,a4,a5],[],0,0⟩ = some (if zh v k (l.drop k) = -1 then (.exit 0,⟨[vU,vU,vU,vU,vU,vU],[],0,0⟩) else (.ret,⟨[vU,vU,vI (zh v k (l.drop k)),vU,vU,vU],[],0,0⟩)):=by
 intro d
 induction d with
 | zero =>
   intro k a2 a4 a5 h1 h2
   have hk : k = l.length:=by omega
   subst hk
   rw [xl zcc rfl,zd9]
   simp -implicitDefEqProofs only [go_sem,ye,yc,yb,zh]
 | succ d ih =>
   intro k a2 a4 a5 h1 h2
   have hk : k < l.length:=by omega
   have hd : l.drop k = l[k] :: l.drop (k + 1):=ya hk
   have:=ih (k + 1) vU vU vU (by omega) (by omega)
   rw [xl zcc rfl,zd9,hd,zh]
   simp -implicitDefEqProofs only [go_sem] at this
   by_cases c : l[k].v = v
   ·have hn : ¬ (k : Int) = -1:=by omega
    rw [if_pos c,if_neg hn]
    simp -implicitDefEqProofs only [go_sem,ilt hk,zp hk,rU,yc,c,yo,yp]
   ·rw [if_neg c]
    simp -implicitDefEqProofs only [go_sem,ilt hk,zp hk,rU,yc,c,yo,yp,za hk hl,this]
theorem zhm (l : List Use) (v : Int) (hl : l.length ≤ 4294967296) : call T 75 [vUs l,vI v] [] = some (vI (zh v 0 l),[]):=by
 rw [ze (fn:=zcF) rfl]
 have h:=fun a2 a4 a5 => zwG l v hl l.length 0 a2 a4 a5 (by omega) (by omega)
 simp only [yf,yi] at h
 by_cases c : zh v 0 l = -1
 ·simp -implicitDefEqProofs only [go_sem,eq_true c] at h
  simp -implicitDefEqProofs only [go_sem,zcF,h,c]
 ·simp -implicitDefEqProofs only [go_sem,c] at h
  simp -implicitDefEqProofs only [go_sem,zcF,h]
def zaP : Nat → List Int → List Use
 | _,[] => []
 | k,b :: r => ⟨(k : Int) + 1,(b,1),-1,0⟩ :: zaP (k + 1) r
def zcY (i : Int) (l : List PPhi) : List Use:=l.map fun p => ⟨p.dst,(p.bits,1),i,-1⟩
def zcW (i : Int) : Nat → List POp → List Use
 | _,[] => []
 | k,o :: r => if 0 < (zab o).1 then ⟨o.dst,zab o,i,(k : Int)⟩ :: zcW i (k + 1) r else zcW i (k + 1) r
def zV : Nat → List PBlock → List Use
 | _,[] => []
 | k,b :: r => zcY k b.phis ++ (zcW k 0 b.ops ++ zV (k + 1) r)
def zL (f : PFunc) : List Use:=zaP 0 f.params ++ zV 0 f.blocks
theorem zgd : ∀ (l : List Int) (k : Nat),(zaP k l).length = l.length
 | [],_ => rfl
 | b :: r,k => by rw [zaP,yg,zgd r,yg]
theorem ziH (i : Int) : ∀ (l : List POp) (k : Nat),(zcW i k l).length ≤ l.length
 | [],_ => by simp [zcW]
 | o :: r,k => by
   have:=ziH i r (k + 1)
   rw [zcW]
   split <;> simp only [yg] <;> omega
section
variable (f : PFunc) (hf : okF f)
abbrev zfR (n : Nat) (r : zd) : zd:=.cells 0 3 [zcJ f] :: .tok 5 [n] :: r
include hf
theorem zyW : ∀ (d k : Nat) (acc : List Use) (a0 a2 a5 a6 a7 a8 a9 a10 a11 a12 a13 a14 a15 : V),f.params.length - k = d → k ≤ f.params.length → acc.length + d ≤ 4294967296 →
  exec T zbW ⟨[a0,.one (.ptr 0 0 0 0),a2,.one (.ap 1 0 (acc.map rU)),vI k,a5,a6,a7,a8,a9,a10,a11,a12,a13,a14,a15],zfR f acc.length [],0,0⟩ =
   some (.exit 0,⟨[vU,.one (.ptr 0 0 0 0),vU,.one (.ap 1 0 ((acc ++ zaP k (f.params.drop k)).map rU)),vU,vU,vU,vU,vU,vU,vU,vU,vU,vU,vU,vU],zfR f (acc ++ zaP k (f.params.drop k)).length [],0,0⟩):=by
 intro d
 induction d with
 | zero =>
   intro k acc a0 a2 a5 a6 a7 a8 a9 a10 a11 a12 a13 a14 a15 h1 h2 hB
   have hk : k = f.params.length:=by omega
   subst hk
   rw [xl zbW rfl,zen]
   simp -implicitDefEqProofs only [go_sem,zfR,ye,yc,yb,zaP,ym]
 | succ d ih =>
   intro k acc a0 a2 a5 a6 a7 a8 a9 a10 a11 a12 a13 a14 a15 h1 h2 hB
   have hk : k < f.params.length:=by omega
   have hd : f.params.drop k = f.params[k] :: f.params.drop (k + 1):=ya hk
   have hlim : acc.length + 1 ≤ LIM:=by unfold LIM; omega
   have:=ih (k + 1) (acc ++ [⟨(k : Int) + 1,(f.params[k],1),-1,0⟩]) vU vU vU vU vU vU vU vU vU vU vU vU vU (by omega) (by omega) (by simp; omega)
   have e1 : ys rU acc ++ [[Fz.lit (Value.int .i64 ((k + 1 : Nat) : Int)),Fz.lit (Value.int .i64 (-1)),Fz.lit (Value.int .i64 0),Fz.lit (Value.int .i64 f.params[k]),Fz.lit (Value.int .i64 1)]] = ys rU (acc ++ [⟨(k : Int) + 1,(f.params[k],1),-1,0⟩]):=by simp [rU]
   rw [yh,yl] at this
   rw [xl zbW rfl,zen,hd,zaP]
   simp -implicitDefEqProofs only [go_sem,zfR,yd,yg,yn,yq] at this
   simp -implicitDefEqProofs only [go_sem,zfR,ilt hk,zp hk,ri,yc,za hk hf.params,hlim,e1,yd,yg,this]
theorem zzz (b : PBlock) (hb : okB b) (i : Nat) : ∀ (d k : Nat) (acc : List Use) (a0 a2 a4 a8 a9 a10 a11 a12 a13 a14 a15 : V),b.phis.length - k = d → k ≤ b.phis.length → acc.length + d ≤ 4294967296 →
  exec T zbY ⟨[a0,.one (.ptr 0 0 0 0),a2,.one (.ap 1 0 (acc.map rU)),a4,vI i,.one (.ptr 2 0 0 0),vI k,a8,a9,a10,a11,a12,a13,a14,a15],zfR f acc.length [.cells 0 5 [zq b]],0,0⟩ =
   some (.exit 4,⟨[vU,.one (.ptr 0 0 0 0),vU,.one (.ap 1 0 ((acc ++ zcY i (b.phis.drop k)).map rU)),vU,vI i,.one (.ptr 2 0 0 0),vU,vU,vU,vU,vU,vU,vU,vU,vU],zfR f (acc ++ zcY i (b.phis.drop k)).length [.cells 0 5 [zq b]],0,0⟩):=by
 intro d
 induction d with
 | zero =>
   intro k acc a0 a2 a4 a8 a9 a10 a11 a12 a13 a14 a15 h1 h2 hB
   have hk : k = b.phis.length:=by omega
   subst hk
   rw [xl zbY rfl,zdW]
   simp -implicitDefEqProofs only [go_sem,zfR,ye,yc,yb,zcY,yr,ym]
 | succ d ih =>
   intro k acc a0 a2 a4 a8 a9 a10 a11 a12 a13 a14 a15 h1 h2 hB
   have hk : k < b.phis.length:=by omega
   have hd : b.phis.drop k = b.phis[k] :: b.phis.drop (k + 1):=ya hk
   have hlim : acc.length + 1 ≤ LIM:=by unfold LIM; omega
   have:=ih (k + 1) (acc ++ [⟨b.phis[k].dst,(b.phis[k].bits,1),i,-1⟩]) vU vU vU vU vU vU vU vU vU vU vU (by omega) (by omega) (by simp; omega)
   have e1 : ys rU acc ++ [[Fz.lit (Value.int .i64 b.phis[k].dst),Fz.lit (Value.int .i64 (i : Int)),Fz.lit (Value.int .i64 (-1)),Fz.lit (Value.int .i64 b.phis[k].bits),Fz.lit (Value.int .i64 1)]] = ys rU (acc ++ [⟨b.phis[k].dst,(b.phis[k].bits,1),i,-1⟩]):=by simp [rU]
   have e2 : zcY (i : Int) (b.phis[k] :: b.phis.drop (k + 1)) = ⟨b.phis[k].dst,(b.phis[k].bits,1),i,-1⟩ :: zcY i (b.phis.drop (k + 1)):=rfl
   rw [yh,yl] at this
   rw [xl zbY rfl,zdW,hd,e2]
   simp -implicitDefEqProofs only [go_sem,zfR,yd,yg,yn,yq] at this
   simp -implicitDefEqProofs only [go_sem,zfR,ilt hk,zp hk,rp,yc,za hk hb.phis,hlim,e1,yd,yg,this]
theorem zzt (b : PBlock) (hb : okB b) (i : Nat) : ∀ (d k : Nat) (acc : List Use) (a0 a2 a4 a7 a9 a10 a11 a12 a13 a14 a15 : V),b.ops.length - k = d → k ≤ b.ops.length → acc.length + d ≤ 4294967296 →
  exec T zcj ⟨[a0,.one (.ptr 0 0 0 0),a2,.one (.ap 1 0 (acc.map rU)),a4,vI i,.one (.ptr 2 0 0 0),a7,vI k,a9,a10,a11,a12,a13,a14,a15],zfR f acc.length [.cells 0 5 [zq b]],0,0⟩ =
   some (.exit 6,⟨[vU,.one (.ptr 0 0 0 0),vU,.one (.ap 1 0 ((acc ++ zcW i k (b.ops.drop k)).map rU)),vU,vI i,vU,vU,vU,vU,vU,vU,vU,vU,vU,vU],zfR f (acc ++ zcW i k (b.ops.drop k)).length [.cells 0 5 [zq b]],0,0⟩):=by
 intro d
 induction d with
 | zero =>
   intro k acc a0 a2 a4 a7 a9 a10 a11 a12 a13 a14 a15 h1 h2 hB
   have hk : k = b.ops.length:=by omega
   subst hk
   rw [xl zcj rfl,zd1]
   simp -implicitDefEqProofs only [go_sem,zfR,ye,yc,yb,zcW,ym]
 | succ d ih =>
   intro k acc a0 a2 a4 a7 a9 a10 a11 a12 a13 a14 a15 h1 h2 hB
   have hk : k < b.ops.length:=by omega
   have hd : b.ops.drop k = b.ops[k] :: b.ops.drop (k + 1):=ya hk
   have hlim : acc.length + 1 ≤ LIM:=by unfold LIM; omega
   have hG:=zrC b.ops[k] (hb.op _ (yk hk))
   rw [xl zcj rfl,zd1,hd,zcW]
   simp -implicitDefEqProofs only [go_sem] at hG
   by_cases c : 0 < (zab b.ops[k]).1
   ·have c' : (zab b.ops[k]).1 > 0:=c
    have:=ih (k + 1) (acc ++ [⟨b.ops[k].dst,zab b.ops[k],i,(k : Int)⟩]) vU vU vU vU vU vU vU vU vU vU vU (by omega) (by omega) (by simp; omega)
    have e1 : ys rU acc ++ [[Fz.lit (Value.int .i64 b.ops[k].dst),Fz.lit (Value.int .i64 (i : Int)),Fz.lit (Value.int .i64 (k : Int)),Fz.lit (Value.int .i64 (zab b.ops[k]).1),Fz.lit (Value.int .i64 (zab b.ops[k]).2)]] = ys rU (acc ++ [⟨b.ops[k].dst,zab b.ops[k],i,(k : Int)⟩]):=by simp [rU]
    rw [yh,yl] at this
    rw [if_pos c]
    simp -implicitDefEqProofs only [go_sem,zfR,yd,yg,yn,yq] at this
    simp -implicitDefEqProofs only [go_sem,zfR,ilt hk,zp hk,ro,yc,hG,eq_true c',za hk hb.ops,hlim,e1,yd,yg,this]
   ·have c' : ¬ (zab b.ops[k]).1 > 0:=c
    have:=ih (k + 1) acc vU vU vU vU vU vU vU vU vU vU vU (by omega) (by omega) (by omega)
    rw [if_neg c]
    simp -implicitDefEqProofs only [go_sem,zfR] at this
    simp -implicitDefEqProofs only [go_sem,zfR,ilt hk,zp hk,ro,yc,hG,c',za hk hb.ops,this]
theorem zz5 : ∀ (d k : Nat) (acc : List Use) (a0 a2 a4 a6 a7 a8 a9 a10 a11 a12 a13 a14 a15 : V),f.blocks.length - k = d → k ≤ f.blocks.length → acc.length + ((f.blocks.drop k).map fun b => b.phis.length + b.ops.length).sum ≤ 4294967296 →
  exec T zcn ⟨[a0,.one (.ptr 0 0 0 0),a2,.one (.ap 1 0 (acc.map rU)),a4,vI k,a6,a7,a8,a9,a10,a11,a12,a13,a14,a15],zfR f acc.length [],0,0⟩ =
   some (.exit 2,⟨[vU,vU,vU,.one (.ap 1 0 ((acc ++ zV k (f.blocks.drop k)).map rU)),vU,vU,vU,vU,vU,vU,vU,vU,vU,vU,vU,vU],zfR f (acc ++ zV k (f.blocks.drop k)).length [],0,0⟩):=by
 intro d
 induction d with
 | zero =>
   intro k acc a0 a2 a4 a6 a7 a8 a9 a10 a11 a12 a13 a14 a15 h1 h2 hB
   have hk : k = f.blocks.length:=by omega
   subst hk
   rw [xl zcn rfl,zdR]
   simp -implicitDefEqProofs only [go_sem,zfR,ye,yc,yb,zV,ym]
 | succ d ih =>
   intro k acc a0 a2 a4 a6 a7 a8 a9 a10 a11 a12 a13 a14 a15 h1 h2 hB
   have hk : k < f.blocks.length:=by omega
   have hd : f.blocks.drop k = f.blocks[k] :: f.blocks.drop (k + 1):=ya hk
   obtain ⟨b,hb'⟩ : ∃ b,b = f.blocks[k]:=⟨_,rfl⟩
   have hb:=hf.block _ (yk hk)
   have gk:=zp (r:=rb) hk
   rw [hd,List.map_cons,List.sum_cons] at hB
   rw [← hb'] at hb gk hB
   have lp : (zcY (k : Int) b.phis).length = b.phis.length:=by simp [zcY]
   have lo:=ziH (k : Int) b.ops 0
   have hP:=fun a0 a2 a4 a8 a9 a10 a11 a12 a13 a14 a15 => zzz f hf b hb k b.phis.length 0 acc a0 a2 a4 a8 a9 a10 a11 a12 a13 a14 a15 (by omega) (by omega) (by omega)
   have hO:=fun a0 a2 a4 a7 a9 a10 a11 a12 a13 a14 a15 => zzt f hf b hb k b.ops.length 0 (acc ++ zcY k b.phis) a0 a2 a4 a7 a9 a10 a11 a12 a13 a14 a15 (by omega) (by omega) (by rw [yd,lp]; omega)
   have:=ih (k + 1) (acc ++ zcY k b.phis ++ zcW k 0 b.ops) vU vU vU vU vU vU vU vU vU vU vU vU vU (by omega) (by omega) (by rw [yd,yd,lp]; omega)
   simp only [yf,yi] at hP hO
   rw [xl zcn rfl,zdR,hd,zV,← hb']
   rw [yh,yh] at this
   rw [yh] at hO
   obtain ⟨a1,ha1⟩ : ∃ a1,a1 = acc ++ zcY (k : Int) b.phis:=⟨_,rfl⟩
   obtain ⟨a2,ha2⟩ : ∃ a2,a2 = acc ++ (zcY (k : Int) b.phis ++ zcW (k : Int) 0 b.ops):=⟨_,rfl⟩
   simp only [← ha1] at hP hO
   simp only [← ha2] at hO this
   simp -implicitDefEqProofs only [go_sem,zfR] at this hP hO
   simp -implicitDefEqProofs only [go_sem,zfR,ilt hk,gk,rb,yc,hP,hO,za hk hf.blocks,this]
end
end AC

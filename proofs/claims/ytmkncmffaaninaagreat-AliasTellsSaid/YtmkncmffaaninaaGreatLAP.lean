/- A part of the proof of AliasTells. Conditions: none. -/
import Derived.Test.YtmkncmffaaninaaGreatLAO
set_option linter.all false
open List renaming drop_eq_getElem_cons → ya,length_map → yb,length_append → yc,length_cons → yd,drop_length → yf,getElem_mem → yh,drop_zero → yi,append_assoc → yj,getD_eq_getElem?_getD → yl,append_nil → yn,replicate → yo,length_nil → yp,singleton_append → yq,map_nil → yr,take_of_length_le → yu,map → yv,map_append → yw,mem_singleton → yx,getElem?_eq_getElem → yy,map_cons → yz,mem_cons → yB,flatMap_nil → yC,nil_append → yD,foldl_cons → yE,map_set → yF,length → yG
open Int renaming natCast_zero → ye,lt_irrefl → yg,natCast_nonneg → yk,toNat_natCast → ym
open Nat renaming le_add_right → ys,zero_add → yt,le_refl → yA
namespace AC
open Go Go.A Go.A.Lex
theorem ztO (l : List Int) : zio (l.map ri) = some l:=by
 induction l with
 | nil => rfl
 | cons x r ih => simp [zio,zze,ri,zhN,ih]
theorem zgy (l : List Int) : zbo (l.map zL) = some (l.map ri):=by
 induction l with
 | nil => rfl
 | cons x r ih => simp [zbo,zgp,zAj,zL,zhN,ih,ri]
theorem zyE (l : List Int) (a : l.length ≤ 4294967296) (σ : zd) (id : Nat) (b : σ[id]? = some (.cells 0 1 [[.f (.sl (l.map ri))]])) :
  call T 145 [.one (.fn 177 [] [.ptr id 0 0 0])] σ = some (.one (.own σ.length 0 0 l.length),σ ++ [.cells 0 1 ((zkZ l).map zL)]):=by
 rw [zuU (g:=zlM 177) rfl];simp [zlM,zd.cell,zd.elem,b,Ob.elem,zt7,ztO,zuS,LIM,a]
theorem zvU (l : List Int) (n : Nat) (b : l.length = n) (a : n ≤ 4294967296) (σ : zd) (id : Nat) (c : σ[id]? = some (.cells 0 1 (l.map zL))) :
  call T 118 [.one (.own id 0 0 n)] σ = some (vIs (zam l),σ.set id (.cells 1 1 [])):=by
 rw [zuU (g:=zjT) rfl];subst b;simp [zjT,c,zpk,LIM,a,zgy,ztO,zpC,vsl];exact fun _ _ => rfl
@[go_sem] theorem zxG (l : List Int) : call T 146 [vIs l] [] = some (.one (.fn 177 [] [.ptr 0 0 0 0]),[.cells 0 1 [[.f (.sl (l.map ri))]]]):=by
  rw [ze (fn:=zge) rfl];simp -implicitDefEqProofs only [go_sem,zge]
theorem zpY (l : List Int) : (zkZ l).length = l.length:=List.length_mergeSort l
theorem zsg (k n : Int) (o0 a : Ob) (r : zd) : call T 144 [vI k,.one (.ptr 2 0 0 0)] (o0 :: a :: .cells 0 1 [[.f (ei n)]] :: r) = some (vB (zmQ n k),o0 :: a :: .cells 0 1 [[.f (ei n)]] :: r):=by
 rw [ze (fn:=ziT) rfl]
 by_cases c : k < 1
 ·simp -implicitDefEqProofs only [go_sem,ziT,zmQ,c]
 ·by_cases d : n ≤ k <;> simp -implicitDefEqProofs only [go_sem,ziT,zmQ,c,d]
def zkO (n : Nat) (b : PBlock) : Bool:=decide (zn8 b.kind = b.to.length) && !b.to.any (zmQ n)
def zkc (n : Nat) : Nat → List PBlock → Option (Nat × PBlock)
 | _,[] => none
 | k,b :: r => if zkO n b = true then zkc n (k + 1) r else some (k,b)
def zsA (l : List Int) : List Int:=zam (zkZ l)
def zn (f : PFunc) : List (List Int):=f.blocks.map fun b => zsA b.to
theorem zID (f : PFunc) (o : okF f) (t : f.blocks.length ≤ 64) : ∀ (d k : Nat) (a0 a1 a3 a6 a7 c g : V),f.blocks.length - k = d → k ≤ f.blocks.length →
  exec T zka ⟨[a0,a1,.one (.ptr 1 0 0 0),a3,.one (.ptr 2 0 0 0),.one (.ap 3 0 (((zn f).take k).map rl)),a6,a7,vL (f.blocks.map rb),vI f.blocks.length,vI k,c,g],[.cells 0 3 [zaP f],.cells 0 2 [[.f (.sl []),.f (.sl [])]],.cells 0 1 [[.f (ei f.blocks.length)]],.tok 1 [k]],0,0⟩ =
   some (match zkc f.blocks.length k (f.blocks.drop k) with
    | none => (.exit 0,⟨[vU,vU,.one (.ptr 1 0 0 0),vU,vU,.one (.ap 3 0 ((zn f).map rl)),vU,vU,vU,vU,vU,vU,vU],[.cells 0 3 [zaP f],.cells 0 2 [[.f (.sl []),.f (.sl [])]],.cells 0 1 [[.f (ei f.blocks.length)]],.tok 1 [f.blocks.length]],0,0⟩)
    | some (j,b) => (.ret,⟨[vU,vU,.one (.ptr 1 0 0 0),vI 5,vU,vU,vU,vU,vU,vU,vU,vU,vU],[.cells 0 3 [zaP f],.cells 0 2 [[.f (.sl []),.f (.sl [])]],.cells 0 1 [[.f (ei f.blocks.length)]],.tok 1 [j],.cells 0 5 [zx b]],0,0⟩)):=by
 intro d
 induction d with
 | zero =>
   intro k a0 a1 a3 a6 a7 c g s r;have a : k = f.blocks.length:=(by omega);subst a;have e : (zn f).take f.blocks.length = zn f:=yu (by simp [zn]);rw [xl zka rfl,znC,e];simp -implicitDefEqProofs only [go_sem,yg,yf,zkc]
 | succ d ih =>
   intro k a0 a1 a3 a6 a7 c g s r;have a : k < f.blocks.length:=(by omega);have hd : f.blocks.drop k = f.blocks[k] :: f.blocks.drop (k + 1):=ya a;have hm:=o.block _ (yh a);rw [xl zka rfl,znC,hd,zkc]
   by_cases c1 : zn8 f.blocks[k].kind = f.blocks[k].to.length
   ·have l:=zbm f.blocks[k].to (zmQ f.blocks.length) 144 [] [.ptr 2 0 0 0] [.cells 0 3 [zaP f],.cells 0 2 [[.f (.sl []),.f (.sl [])]],.cells 0 1 [[.f (ei f.blocks.length)]],.tok 1 [k],.cells 0 5 [zx f.blocks[k]]] hm.to (fun x _ => zsg x _ _ _ _)
    cases c2 : f.blocks[k].to.any (zmQ f.blocks.length)
    ·have m : ((zn f).take k).length = k:=by simp [zn]; omega
     have i : k + 1 ≤ LIM:=(by unfold LIM; omega);have n:=zxG f.blocks[k].to;have p:=zyE f.blocks[k].to hm.to [.cells 0 3 [zaP f],.cells 0 2 [[.f (.sl []),.f (.sl [])]],.cells 0 1 [[.f (ei f.blocks.length)]],.tok 1 [k],.cells 0 5 [zx f.blocks[k]],.cells 0 1 [[.f (.sl (f.blocks[k].to.map ri))]]] 5 rfl;have h:=zvU (zkZ f.blocks[k].to) f.blocks[k].to.length (zpY _) hm.to [.cells 0 3 [zaP f],.cells 0 2 [[.f (.sl []),.f (.sl [])]],.cells 0 1 [[.f (ei f.blocks.length)]],.tok 1 [k],.cells 0 5 [zx f.blocks[k]],.cells 0 1 [[.f (.sl (f.blocks[k].to.map ri))]],.cells 0 1 ((zkZ f.blocks[k].to).map zL)] 6 rfl
     have e : ((zn f).take k).map rl ++ [[Fz.sl ((zam (zkZ f.blocks[k].to)).map ri)]] = ((zn f).take (k + 1)).map rl:=by
      rw [List.take_succ_eq_append_getElem (by simpa [zn] using a),yw];simp [zn,rl,zsA]
     have:=ih (k + 1) vU vU vU vU vU vU vU (by omega) (by omega);rw [← e] at this;simp -implicitDefEqProofs only [go_sem] at l n p h this;simp -implicitDefEqProofs only [go_sem,ilt a,zt a,rb,c1,l,c2,zkO,n,p,h,m,i,za a o.blocks] at this ⊢;exact this
    ·simp -implicitDefEqProofs only [go_sem] at l
     simp -implicitDefEqProofs only [go_sem,ilt a,zt a,rb,c1,l,c2,zkO]
   ·have q : ¬ zn8 f.blocks[k].kind = (f.blocks[k].to.length : Int):=c1
    simp -implicitDefEqProofs only [go_sem,ilt a,zt a,rb,c1,zkO]
theorem zpQ (n : Nat) : ∀ (bs : List PBlock) (k : Nat),(zkc n k bs).isNone = bs.all (zkO n)
 | [],_ => rfl
 | b :: r,k => by
   simp only [zkc,List.all_cons];cases h : zkO n b
   ·simp
   ·simpa using zpQ n r (k + 1)
theorem zl2 : ∀ l : List Int,(zam l).length ≤ l.length
 | [] => by simp [zam]
 | [x] => by simp [zam]
 | x :: y :: r => by
   have:=zl2 (y :: r);simp only [zam];split
   ·simp only [yd] at this ⊢; omega
   ·simp only [yd] at this ⊢; omega
theorem zw8 (l : List Int) : (zsA l).length ≤ l.length:=by
 have:=zl2 (zkZ l)
 rwa [zpY] at this
theorem zjN {f : PFunc} (a : okF f) : zl5 (zn f):=by
 refine ⟨by simpa [zn] using a.blocks,fun l c => ?_⟩;obtain ⟨b,d,rfl⟩:=List.mem_map.1 c;have:=zw8 b.to;have:=(a.block b d).to;omega
def zaQ (f : PFunc) : Bool:=!decide (64 < f.blocks.length) && (f.blocks.all (zkO f.blocks.length) && zbY (zn f))
def zhZ (f : PFunc) : V:=if zaQ f = true then .tup [.agg [.f (.sl ((zn f).map rl)),.f (.sl ((z7 (zn f)).map rl))],vI 0] else .tup [.agg [.f (.sl []),.f (.sl [])],vI 5]
@[go_sem] theorem zow (f : PFunc) (i : okF f) : call T 98 [za9 f] [] = some (zhZ f,[]):=by
  rw [ze (fn:=zh9) rfl]
  by_cases c1 : 64 < f.blocks.length
  ·have a : (64 : Int) < (f.blocks.length : Int):=by omega
   simp -implicitDefEqProofs only [go_sem,zh9,c1,a,zhZ,zaQ]
  have a : ¬ (64 : Int) < (f.blocks.length : Int):=by omega
  have c:=fun a0 a1 a3 a6 a7 g h => zID f i (by omega) f.blocks.length 0 a0 a1 a3 a6 a7 g h (by omega) (by omega);have d:=zpQ f.blocks.length f.blocks 0;simp only [yi,ye,List.take_zero] at c
  cases e : zkc f.blocks.length 0 f.blocks with
  | some x =>
    rw [e] at d;simp only [Option.isNone_some] at d;obtain ⟨j,b⟩:=x;simp -implicitDefEqProofs only [go_sem,e] at c;simp -implicitDefEqProofs only [go_sem,zh9,c1,a,c,zhZ,zaQ,← d]
  | none =>
    rw [e] at d;simp only [Option.isNone_none] at d;have hm:=zlo (zn f) (zjN i);cases e2 : zbY (zn f)
    ·simp -implicitDefEqProofs only [go_sem,e,zlE,e2] at c hm
     simp -implicitDefEqProofs only [go_sem,zh9,c1,a,c,hm,zhZ,zaQ,← d,e2]
    ·simp -implicitDefEqProofs only [go_sem,e,zlE,e2] at c hm
     simp -implicitDefEqProofs only [go_sem,zh9,c1,a,c,hm,zhZ,zaQ,← d,e2]
theorem zwv {t : List Int} {a : Int} (b : ¬ a < 0) (c : ¬ (t.length : Int) ≤ a) : (t.map ri)[a.toNat]? = some [.lit (.int .i64 (tr t a))]:=by
 have : a.toNat < t.length:=by omega
 rw [zt this];simp [tr,this,ri]
theorem zBt (t : List Int) (e : t.length ≤ 4294967296) : ∀ (d k : Nat) (a : Int) (a2 a3 a6 a7 a8 : V),t.length - k = d → k ≤ t.length →
  exec T zi5 ⟨[vIs t,vI a,a2,a3,vI t.length,vI k,a6,a7,a8],[],0,0⟩ =
   some (match zao t d k a with
    | none => (.exit 0,⟨[vU,vU,vU,vU,vU,vU,vU,vU,vU],[],0,0⟩)
    | some n => (.ret,⟨[vU,vU,vI n,vU,vU,vU,vU,vU,vU],[],0,0⟩)):=by
 intro d
 induction d with
 | zero =>
   intro k a a2 a3 a6 a7 a8 c f;have b : k = t.length:=(by omega);subst b;rw [xl zi5 rfl,zlP];simp -implicitDefEqProofs only [go_sem,yg,zao]
 | succ d ih =>
   intro k a a2 a3 a6 a7 a8 c f;have b : k < t.length:=(by omega);rw [xl zi5 rfl,zlP,zao]
   by_cases c1 : a < 0
   ·simp -implicitDefEqProofs only [go_sem,ilt b,c1]
   by_cases c2 : (t.length : Int) ≤ a
   ·simp -implicitDefEqProofs only [go_sem,ilt b,c1,c2]
   have c0 : 0 ≤ a:=(by omega);have c3 : a < (t.length : Int):=by omega
   by_cases c4 : tr t a = -1
   ·simp -implicitDefEqProofs only [go_sem,ilt b,c0,c1,c2,c3,zwv c1 c2,c4]
   ·have:=ih (k + 1) (tr t a) vU vU vU vU vU (by omega) (by omega)
    simp -implicitDefEqProofs only [go_sem] at this;simp -implicitDefEqProofs only [go_sem,ilt b,c0,c1,c2,c3,zwv c1 c2,c4,za b e];rw [this];rfl
@[go_sem] theorem zmf (t : List Int) (a : Int) (b : t.length ≤ 4294967296) : call T 250 [vIs t,vI a] [] = some (vI (zT t a),[]):=by
  rw [ze (fn:=znK) rfl];have h:=fun a2 a3 a6 a7 a8 => zBt t b t.length 0 a a2 a3 a6 a7 a8 (by omega) (by omega);simp only [ye] at h;cases e : zao t t.length 0 a <;> simp -implicitDefEqProofs only [go_sem,e] at h <;> simp -implicitDefEqProofs only [go_sem,znK,h,zT,e,Option.getD_none,Option.getD_some]
theorem zBw (t : List Int) (e : t.length ≤ 4294967296) : ∀ (d k n : Nat) (a1 a3 a4 a8 a9 b : V),t.length - k = d → k ≤ t.length → n ≤ k →
  exec T ziX ⟨[vIs t,a1,vI n,a3,a4,vIs t,vI t.length,vI k,a8,a9,b],[],0,0⟩ =
   some (match zbc t k n (t.drop k) with
    | none => (.ret,⟨[vU,vB false,vU,vU,vU,vU,vU,vU,vU,vU,vU],[],0,0⟩)
    | some n => (.exit 0,⟨[vU,vU,vI n,vU,vU,vU,vU,vU,vU,vU,vU],[],0,0⟩)):=by
 intro d
 induction d with
 | zero =>
   intro k n a1 a3 a4 a8 a9 b i g h;have a : k = t.length:=(by omega);subst a;rw [xl ziX rfl,zlv];simp -implicitDefEqProofs only [go_sem,yg,yf,zbc]
 | succ d ih =>
   intro k n a1 a3 a4 a8 a9 b i g h;have a : k < t.length:=(by omega);have hd : t.drop k = t[k] :: t.drop (k + 1):=ya a;have c:=zmf t k e;have f:=za (k:=n) (n:=t.length) (by omega) e;rw [xl ziX rfl,zlv,hd,zbc];simp -implicitDefEqProofs only [go_sem] at c
   by_cases c1 : t[k] = -2
   ·have:=ih (k + 1) n vU vU vU vU vU vU (by omega) (by omega) (by omega)
    simp -implicitDefEqProofs only [go_sem] at this;simp -implicitDefEqProofs only [go_sem,ilt a,zt a,ri,c1,za a e];rw [this]
    all_goals rfl
   ·by_cases c2 : t[k] = -1
    ·by_cases c3 : zT t k < 0
     ·simp -implicitDefEqProofs only [go_sem,ilt a,zt a,ri,c1,c2,c,c3,f]
     ·have:=ih (k + 1) (n + 1) vU vU vU vU vU vU (by omega) (by omega) (by omega)
      simp -implicitDefEqProofs only [go_sem] at this;simp -implicitDefEqProofs only [go_sem,ilt a,zt a,ri,c1,c2,c,c3,f,za a e];rw [this]
      all_goals rfl
    ·by_cases c3 : zT t k < 0
     ·simp -implicitDefEqProofs only [go_sem,ilt a,zt a,ri,c1,c2,c,c3]
     ·have:=ih (k + 1) n vU vU vU vU vU vU (by omega) (by omega) (by omega)
      simp -implicitDefEqProofs only [go_sem] at this;simp -implicitDefEqProofs only [go_sem,ilt a,zt a,ri,c1,c2,c,c3,za a e];rw [this]
      all_goals rfl
@[go_sem] theorem zA3 (t : List Int) (b : t.length ≤ 4294967296) : call T 248 [vIs t] [] = some (vB (zhY t),[]):=by
  rw [ze (fn:=ziI) rfl];have h:=fun a1 a3 a4 a8 a9 a => zBw t b t.length 0 0 a1 a3 a4 a8 a9 a (by omega) (by omega) (by omega);simp only [ye,yi] at h
  cases e : zbc t 0 0 t with
  | none =>
    simp -implicitDefEqProofs only [go_sem,e] at h;simp -implicitDefEqProofs only [go_sem,ziI,h,zhY,e];rfl
  | some n =>
    simp -implicitDefEqProofs only [go_sem,e] at h
    by_cases c : n = 1
    ·subst c
     simp -implicitDefEqProofs only [go_sem,ziI,h,zhY,e];rfl
    ·have d : ¬ (n : Int) = 1:=by omega
     have c2 : (some n == some 1) = false:=(by simpa using c);simp -implicitDefEqProofs only [go_sem,ziI,h,zhY,e,d,c2]
theorem zub (t : List Int) (a : Int) (b : t.length ≤ 4294967296) (r : zd) : call T 249 [vI a,.one (.ptr 0 0 0 0)] (.cells 0 1 [[.f (eI t)]] :: r) = some (vB (decide (zT t a < 0)),.cells 0 1 [[.f (eI t)]] :: r):=by
 rw [ze (fn:=zo5) rfl];have h:=zmf t a b;simp -implicitDefEqProofs only [go_sem] at h;simp -implicitDefEqProofs only [go_sem,zo5,h]
theorem zxi (t l : List Int) (d : t.length ≤ 4294967296) (b : l.length ≤ 4294967296) : call T 232 [vIs t,vIs l] [] = some (vB (inS t l),[]):=by
 rw [ze (fn:=zuf) rfl];have g:=zbm l (fun a => decide (zT t a < 0)) 249 [] [.ptr 0 0 0 0] [.cells 0 1 [[.f (eI t)]]] b (fun x _ => zub t x d []);have e:=zA3 t d;simp -implicitDefEqProofs only [go_sem] at g;cases c : zhY t <;> simp -implicitDefEqProofs only [go_sem,c] at e <;> simp -implicitDefEqProofs only [go_sem,zuf,e,c,g,inS]
theorem zqd (t : List Int) (a b : Int) (c : t.length ≤ 4294967296) : call T 232 [vIs t,vL [[ei a],[ei b]]] [] = some (vB (inS t [a,b]),[]):=zxi t [a,b] c (by simp)
theorem zB4 (t : List Int) (i : t.length ≤ 4294967296) (h : zhY t = true) : ∀ (d : Nat) (a b : Int) (a3 a4 a5 a6 : V),0 ≤ zT t a → 0 ≤ zT t b → zT t a + zT t b ≤ d →
  exec T zkH ⟨[vIs t,vI a,vI b,a3,a4,a5,a6],[],0,0⟩ = some (.exit 0,⟨[vU,vI (zkm t d a b),vU,vU,vU,vU,vU],[],0,0⟩):=by
 intro d
 induction d with
 | zero =>
   intro a b a3 a4 a5 a6 g f hd;have l:=ziK g;have j:=ziK f;have e : a = b:=zvI h l j (ziy (by omega)) (ziy (by omega));subst e;rw [xl zkH rfl,znz];simp -implicitDefEqProofs only [go_sem,zkm]
 | succ d ih =>
   intro a b a3 a4 a5 a6 g f hd;obtain ⟨a0,a1⟩:=ziK g;obtain ⟨b0,b1⟩:=ziK f;have ca:=zmf t a i;have cb:=zmf t b i;simp -implicitDefEqProofs only [go_sem] at ca cb;rw [xl zkH rfl,znz,zkm]
   by_cases c1 : a = b
   ·subst c1
    simp -implicitDefEqProofs only [go_sem]
   by_cases c2 : zT t b ≤ zT t a
   ·have c : tr t a ≠ -1:=fun e => by
     have k:=zmw a0 a1 e;exact c1 (zvI h ⟨a0,a1⟩ ⟨b0,b1⟩ e (ziy (by omega)))
    have m:=zgb g c;have:=ih (tr t a) b vU vU vU vU (by omega) f (by omega);simp -implicitDefEqProofs only [go_sem] at this;simp -implicitDefEqProofs only [go_sem,c1,c2,ca,cb,a0,zwv (t:=t) (a:=a) (by omega) (by omega),this]
   ·have c : tr t b ≠ -1:=fun e => by
     have k:=zmw b0 b1 e;omega
    have m:=zgb f c;have:=ih a (tr t b) vU vU vU vU g (by omega) (by omega);simp -implicitDefEqProofs only [go_sem] at this;simp -implicitDefEqProofs only [go_sem,c1,c2,ca,cb,b0,zwv (t:=t) (a:=b) (by omega) (by omega),this]
@[go_sem] theorem zEC (t : List Int) (a b : Int) (e : t.length ≤ 4294967296) : call T 233 [vIs t,vI a,vI b] [] = some (vI (zAe t a b),[]):=by
  rw [ze (fn:=zmk) rfl];have d:=zqd t a b e;cases c : inS t [a,b]
  ·simp -implicitDefEqProofs only [go_sem,c] at d
   simp -implicitDefEqProofs only [go_sem,zmk,d,c,zAe]
  ·obtain ⟨f,i,g⟩:=zHU c
   have h:=fun a3 a4 a5 a6 => zB4 t e f (zT t a + zT t b).toNat a b a3 a4 a5 a6 i g (by omega);simp -implicitDefEqProofs only [go_sem,c] at d h;simp -implicitDefEqProofs only [go_sem,zmk,d,c,zAe,h]
@[go_sem] theorem zrx (t : List Int) (a b : Int) (d : t.length ≤ 4294967296) : call T 196 [vIs t,vI a,vI b] [] = some (vB (zmM t a b),[]):=by
  rw [ze (fn:=zpF) rfl];have e:=zqd t a b d;have hm:=zEC t a b d;simp -implicitDefEqProofs only [go_sem] at hm;cases c : inS t [a,b] <;> simp -implicitDefEqProofs only [go_sem,c] at e <;> simp -implicitDefEqProofs only [go_sem,zpF,e,hm,c,zmM]
structure Use where
 v : Int
 shape : Int × Int
 block : Int
 at' : Int
abbrev zlu : Int:=1048576
def zab (ask : Use → Int) : List Use → Int
 | [] => 0
 | u :: r => if ask u = 0 then zab ask r else ask u
theorem zif (ask : Use → Int) : ∀ (a b : List Use),zab ask (a ++ b) = if zab ask a = 0 then zab ask b else zab ask a
 | [],b => by simp [zab]
 | u :: r,b => by
   simp only [List.cons_append,zab,zif ask r b]
   by_cases h : ask u = 0 <;> simp [h]
def zX (p : PPhi) (k : Nat) : List Int → List Use
 | [] => []
 | v :: r => ⟨v,(p.bits,1),p.src.getD k 0,zlu⟩ :: zX p (k + 1) r
def zg4 (p : PPhi) : List Use:=zX p 0 p.args
def zy (o : POp) (i at' : Int) (k : Nat) : List (Int × Int) → List Use
 | [] => []
 | s :: r => ⟨o.args.getD k 0,s,i,at'⟩ :: zy o i at' (k + 1) r
def zln (o : POp) (i at' : Int) : List Use:=zy o i at' 0 (zaa o)
def zk (i : Int) (k : Nat) : List POp → List Use
 | [] => []
 | o :: r => zln o i (k : Int) ++ zk i (k + 1) r
def zaF (l : List PPhi) : List Use:=l.flatMap zg4
def zjw (f : PFunc) (b : PBlock) : Int:=if b.kind = 0 then f.ret else if b.kind = 2 then 1 else 0
def zbP (f : PFunc) (i : Int) (b : PBlock) : List Use:=if zjw f b = 0 then [] else [⟨b.arg,(zjw f b,1),i,zlu⟩]
def zgE (f : PFunc) (i : Int) (b : PBlock) : List Use:=zaF b.phis ++ (zk i 0 b.ops ++ zbP f i b)
def zaH (f : PFunc) (k : Nat) : List PBlock → List Use
 | [] => []
 | b :: r => zgE f (k : Int) b ++ zaH f (k + 1) r
def zdU (f : PFunc) : List Use:=zaH f 0 f.blocks
abbrev zBy (f : PFunc) (level : Int) (x y z d : C) : Ob:=.cells 0 8 [[.f (eI f.params),.f (ei f.ret),.f (.sl (f.blocks.map rb)),.f (ei level),x,y,z,d]]
theorem zkF (b : Int) : call T 205 [vI b] [] = some (.agg [.f (ei b),.f (ei 1)],[]):=by
 rw [ze (fn:=zjz) rfl];simp -implicitDefEqProofs only [go_sem,zjz]
section
variable (f : PFunc) (hf : okF f) (level : Int) (x y z dd : C) (g : Nat) (caps : List C) (σ : zd) (hck : σ[1]? = some (zBy f level x y z dd)) (hσ : Ok σ) (hcaps : C.lts σ.length caps = true) (ask : Use → Int)
 (hask : ∀ (r : zd) (u : Use),Obs.lt (σ.length + r.length) r = true → call T g (vI u.v :: .agg [.f (ei u.shape.1),.f (ei u.shape.2)] :: vI u.block :: vI u.at' :: caps.map V.one) (σ ++ r) = some (vI (ask u),σ ++ r))
abbrev zEY : V:=.one (.fn g [] caps)
include hck hσ hcaps hask
theorem zIX (b : PBlock) (p : PPhi) (z : okB b) (A : p ∈ b.phis) (hlen : p.args.length = p.src.length) (i y : Int) : ∀ (d k : Nat) (a2 a7 a8 a9 t e j h s q a25 a26 a27 a28 a29 u l a32 a33 o a35 a36 m : V),p.args.length - k = d → k ≤ p.args.length →
  exec T zc0 ⟨[.one (.ptr 1 0 0 0),zEY g caps,a2,vI 0,vI i,.one (.ptr σ.length 0 0 0),.one (.ptr (σ.length + 1) 0 0 0),a7,a8,a9,t,e,j,h,vL (f.blocks.map rb),vI f.blocks.length,vI i,s,vL (b.phis.map rp),vI b.phis.length,vI y,q,vIs p.args,vI p.args.length,vI k,a25,a26,a27,a28,a29,u,l,a32,a33,o,a35,a36,m],σ ++ [.cells 0 5 [zx b],.cells 0 4 [zyy p]],σ.length,σ.length⟩ =
   some (if zab ask (zX p k (p.args.drop k)) = 0 then (.exit 4,⟨[.one (.ptr 1 0 0 0),zEY g caps,vU,vI 0,vI i,.one (.ptr σ.length 0 0 0),vU,vU,vU,vU,vU,vU,vU,vU,vL (f.blocks.map rb),vI f.blocks.length,vI i,vU,vL (b.phis.map rp),vI b.phis.length,vI y,vU,vU,vU,vU,vU,vU,vU,vU,vU,vU,vU,vU,vU,vU,vU,vU,vU],σ ++ [.cells 0 5 [zx b],.cells 0 4 [zyy p]],σ.length,σ.length⟩)
    else (.goto 0,⟨[vU,vU,vU,vI (zab ask (zX p k (p.args.drop k))),vU,vU,vU,vU,vU,vU,vU,vU,vU,vU,vU,vU,vU,vU,vU,vU,vU,vU,vU,vU,vU,vU,vU,vU,vU,vU,vU,vU,vU,vU,vU,vU,vU,vU],σ,σ.length,σ.length⟩)):=by
 intro d;have w:=fun k => zfU (ys σ.length k) caps hcaps;have E : p.args.length ≤ 4294967296:=(z.phi p A).2
 induction d with
 | zero =>
   intro k a2 a7 a8 a9 t e j h s q a25 a26 a27 a28 a29 u l a32 a33 o a35 a36 m D C;have a : k = p.args.length:=(by omega);subst a;rw [xl zc0 rfl,zfe];simp -implicitDefEqProofs only [go_sem,yg,yf,zX,zab]
 | succ d ih =>
   intro k a2 a7 a8 a9 t e j h s q a25 a26 a27 a28 a29 u l a32 a33 o a35 a36 m D C;have a : k < p.args.length:=(by omega);have r : k < p.src.length:=(by omega);have hd : p.args.drop k = p.args[k] :: p.args.drop (k + 1):=ya a;have n:=zkF p.bits;have x:=hask [.cells 0 5 [zx b],.cells 0 4 [zyy p]] ⟨p.args[k],(p.bits,1),p.src[k],zlu⟩ (by simp -implicitDefEqProofs only [go_sem]);have B : p.src.getD k 0 = p.src[k]:=(by simp [r]);rw [xl zc0 rfl,zfe,hd,zX,zab,B];simp -implicitDefEqProofs only [go_sem,zlu] at n x
   by_cases c : ask ⟨p.args[k],(p.bits,1),p.src[k],zlu⟩ = 0
   ·have c' : ask { v:=p.args[k],shape:=(p.bits,1),block:=p.src[k],at':=1048576 } = 0:=c
    have:=ih (k + 1) vU vU vU vU vU vU vU vU vU vU vU vU vU vU vU vU vU vU vU vU vU vU vU (by omega) (by omega);simp -implicitDefEqProofs only [go_sem] at this;simp -implicitDefEqProofs only [go_sem,ilt a,zt a,zt r,ri,n,x,c',za a E,zlu,w,Ok.up hσ,zgU hck,Ok.at hσ,zgS hck,this]
   ·have c' : ¬ ask { v:=p.args[k],shape:=(p.bits,1),block:=p.src[k],at':=1048576 } = 0:=c
    simp -implicitDefEqProofs only [go_sem,ilt a,zt a,zt r,ri,n,x,c',zlu,Ok.at hσ]
def zlj (b : PBlock) : Prop:=(∀ p ∈ b.phis,p.args.length = p.src.length) ∧ ∀ o ∈ b.ops,(zaa o).length ≤ o.args.length
theorem zIw (b : PBlock) (w : okB b) (v : zlj b) (i : Int) : ∀ (d k : Nat) (a2 a6 a7 a8 a9 q a j h p o a22 a23 a24 a25 a26 a27 a28 a29 r l a32 a33 n a35 a36 m : V),b.phis.length - k = d → k ≤ b.phis.length →
  exec T zcO ⟨[.one (.ptr 1 0 0 0),zEY g caps,a2,vI 0,vI i,.one (.ptr σ.length 0 0 0),a6,a7,a8,a9,q,a,j,h,vL (f.blocks.map rb),vI f.blocks.length,vI i,p,vL (b.phis.map rp),vI b.phis.length,vI k,o,a22,a23,a24,a25,a26,a27,a28,a29,r,l,a32,a33,n,a35,a36,m],σ ++ [.cells 0 5 [zx b]],σ.length,σ.length⟩ =
   some (if zab ask (zaF (b.phis.drop k)) = 0 then (.exit 2,⟨[.one (.ptr 1 0 0 0),zEY g caps,vU,vI 0,vI i,.one (.ptr σ.length 0 0 0),vU,vU,vU,vU,vU,vU,vU,vU,vL (f.blocks.map rb),vI f.blocks.length,vI i,vU,vU,vU,vU,vU,vU,vU,vU,vU,vU,vU,vU,vU,vU,vU,vU,vU,vU,vU,vU,vU],σ ++ [.cells 0 5 [zx b]],σ.length,σ.length⟩)
    else (.goto 0,⟨[vU,vU,vU,vI (zab ask (zaF (b.phis.drop k))),vU,vU,vU,vU,vU,vU,vU,vU,vU,vU,vU,vU,vU,vU,vU,vU,vU,vU,vU,vU,vU,vU,vU,vU,vU,vU,vU,vU,vU,vU,vU,vU,vU,vU],σ,σ.length,σ.length⟩)):=by
 intro d;have u:=fun k => zfU (ys σ.length k) caps hcaps
 induction d with
 | zero =>
   intro k a2 a6 a7 a8 a9 q a j h p o a22 a23 a24 a25 a26 a27 a28 a29 r l a32 a33 n a35 a36 m B A;have s : k = b.phis.length:=(by omega);subst s;rw [xl zcO rfl,zeZ];simp -implicitDefEqProofs only [go_sem,yg,yf,zaF,yC,zab]
 | succ d ih =>
   intro k a2 a6 a7 a8 a9 q a j h p o a22 a23 a24 a25 a26 a27 a28 a29 r l a32 a33 n a35 a36 m B A;have s : k < b.phis.length:=(by omega);have hd : b.phis.drop k = b.phis[k] :: b.phis.drop (k + 1):=ya s;have hm:=yh s;have t:=fun a2 a7 a8 a9 q a j h p o a25 a26 a27 a28 a29 r l a32 a33 n a35 a36 m => zIX f level x y z dd g caps σ hck hσ hcaps ask hask b b.phis[k] w hm (v.1 _ hm) i k b.phis[k].args.length 0 a2 a7 a8 a9 q a j h p o a25 a26 a27 a28 a29 r l a32 a33 n a35 a36 m (by omega) (by omega);have e : zaF (b.phis[k] :: b.phis.drop (k + 1)) = zg4 b.phis[k] ++ zaF (b.phis.drop (k + 1)):=(by rw [zaF,List.flatMap_cons]; rfl);rw [xl zcO rfl,zeZ,hd,e,zif];simp only [yi,ye] at t;have e2 : zX b.phis[k] 0 b.phis[k].args = zg4 b.phis[k]:=rfl;rw [e2] at t
   by_cases c : zab ask (zg4 b.phis[k]) = 0
   ·have:=ih (k + 1) vU vU vU vU vU vU vU vU vU vU vU vU vU vU vU vU vU vU vU vU vU vU vU vU vU vU vU (by omega) (by omega)
    simp -implicitDefEqProofs only [go_sem,c] at this t;simp -implicitDefEqProofs only [go_sem,ilt s,zt s,rp,t,c,za s w.phis,u,Ok.up hσ,zgU hck,Ok.at hσ,zgS hck,this]
   ·simp -implicitDefEqProofs only [go_sem,c] at t
    simp -implicitDefEqProofs only [go_sem,ilt s,zt s,rp,t,c]
theorem zIb (b : PBlock) (o : POp) (x : okB b) (z : o ∈ b.ops) (hlen : (zaa o).length ≤ o.args.length) (i t : Int) : ∀ (d k : Nat) (a2 a6 a7 a8 e j h r m s a20 p a22 a23 a24 a25 a26 u n a35 a36 l : V),(zaa o).length - k = d → k ≤ (zaa o).length →
  exec T zcQ ⟨[.one (.ptr 1 0 0 0),zEY g caps,a2,vI 0,vI i,.one (.ptr σ.length 0 0 0),a6,a7,a8,vI t,.one (.ptr (σ.length + 1) 0 0 0),e,j,h,vL (f.blocks.map rb),vI f.blocks.length,vI i,r,m,s,a20,p,a22,a23,a24,a25,a26,vL (b.ops.map ro),vI b.ops.length,vI t,u,vSs (zaa o),vI (zaa o).length,vI k,n,a35,a36,l],σ ++ [.cells 0 5 [zx b],.cells 0 6 [cOp o]],σ.length,σ.length⟩ =
   some (if zab ask (zy o i t k ((zaa o).drop k)) = 0 then (.exit 8,⟨[.one (.ptr 1 0 0 0),zEY g caps,vU,vI 0,vI i,.one (.ptr σ.length 0 0 0),vU,vU,vU,vU,vU,vU,vU,vU,vL (f.blocks.map rb),vI f.blocks.length,vI i,vU,vU,vU,vU,vU,vU,vU,vU,vU,vU,vL (b.ops.map ro),vI b.ops.length,vI t,vU,vU,vU,vU,vU,vU,vU,vU],σ ++ [.cells 0 5 [zx b],.cells 0 6 [cOp o]],σ.length,σ.length⟩)
    else (.goto 0,⟨[vU,vU,vU,vI (zab ask (zy o i t k ((zaa o).drop k))),vU,vU,vU,vU,vU,vU,vU,vU,vU,vU,vU,vU,vU,vU,vU,vU,vU,vU,vU,vU,vU,vU,vU,vU,vU,vU,vU,vU,vU,vU,vU,vU,vU,vU],σ,σ.length,σ.length⟩)):=by
 intro d;have v:=fun k => zfU (ys σ.length k) caps hcaps;have C : (zaa o).length ≤ 4294967296:=by have:=(x.op o z).2; omega
 induction d with
 | zero =>
   intro k a2 a6 a7 a8 e j h r m s a20 p a22 a23 a24 a25 a26 u n a35 a36 l B A;have a : k = (zaa o).length:=(by omega);subst a;rw [xl zcQ rfl,zfl];simp -implicitDefEqProofs only [go_sem,yg,yf,zy,zab]
 | succ d ih =>
   intro k a2 a6 a7 a8 e j h r m s a20 p a22 a23 a24 a25 a26 u n a35 a36 l B A;have a : k < (zaa o).length:=(by omega);have q : k < o.args.length:=(by omega);have hd : (zaa o).drop k = (zaa o)[k] :: (zaa o).drop (k + 1):=ya a;have w:=hask [.cells 0 5 [zx b],.cells 0 6 [cOp o],.cells 0 2 [[.f (ei (zaa o)[k].1),.f (ei (zaa o)[k].2)]]] ⟨o.args[k],(zaa o)[k],i,t⟩ (by simp -implicitDefEqProofs only [go_sem]);have y : o.args.getD k 0 = o.args[k]:=(by simp [q]);rw [xl zcQ rfl,zfl,hd,zy,zab,y];simp -implicitDefEqProofs only [go_sem] at w
   by_cases c : ask ⟨o.args[k],(zaa o)[k],i,t⟩ = 0
   ·have:=ih (k + 1) vU vU vU vU vU vU vU vU vU vU vU vU vU vU vU vU vU vU vU vU vU vU (by omega) (by omega)
    simp -implicitDefEqProofs only [go_sem,c] at this w;simp -implicitDefEqProofs only [go_sem,ilt a,zt a,zt q,ri,rs,w,c,za a C,v,Ok.up hσ,zgU hck,Ok.at hσ,zgS hck,this]
   ·simp -implicitDefEqProofs only [go_sem,ilt a,zt a,zt q,ri,rs,w,c,Ok.at hσ]
theorem zIr (b : PBlock) (w : okB b) (A : zlj b) (i : Int) : ∀ (d k : Nat) (a2 a6 a7 a8 a9 t a h e o l p a20 n a22 a23 a24 a25 a26 q s a32 a33 m a35 a36 j : V),b.ops.length - k = d → k ≤ b.ops.length →
  exec T zcW ⟨[.one (.ptr 1 0 0 0),zEY g caps,a2,vI 0,vI i,.one (.ptr σ.length 0 0 0),a6,a7,a8,a9,t,a,h,e,vL (f.blocks.map rb),vI f.blocks.length,vI i,o,l,p,a20,n,a22,a23,a24,a25,a26,vL (b.ops.map ro),vI b.ops.length,vI k,q,s,a32,a33,m,a35,a36,j],σ ++ [.cells 0 5 [zx b]],σ.length,σ.length⟩ =
   some (if zab ask (zk i k (b.ops.drop k)) = 0 then (.exit 6,⟨[.one (.ptr 1 0 0 0),zEY g caps,vU,vI 0,vI i,.one (.ptr σ.length 0 0 0),vU,vU,vU,vU,vU,vU,vU,vU,vL (f.blocks.map rb),vI f.blocks.length,vI i,vU,vU,vU,vU,vU,vU,vU,vU,vU,vU,vU,vU,vU,vU,vU,vU,vU,vU,vU,vU,vU],σ ++ [.cells 0 5 [zx b]],σ.length,σ.length⟩)
    else (.goto 0,⟨[vU,vU,vU,vI (zab ask (zk i k (b.ops.drop k))),vU,vU,vU,vU,vU,vU,vU,vU,vU,vU,vU,vU,vU,vU,vU,vU,vU,vU,vU,vU,vU,vU,vU,vU,vU,vU,vU,vU,vU,vU,vU,vU,vU,vU],σ,σ.length,σ.length⟩)):=by
 intro d;have v:=fun k => zfU (ys σ.length k) caps hcaps
 induction d with
 | zero =>
   intro k a2 a6 a7 a8 a9 t a h e o l p a20 n a22 a23 a24 a25 a26 q s a32 a33 m a35 a36 j D C;have r : k = b.ops.length:=(by omega);subst r;rw [xl zcW rfl,zeX];simp -implicitDefEqProofs only [go_sem,yg,yf,zk,zab]
 | succ d ih =>
   intro k a2 a6 a7 a8 a9 t a h e o l p a20 n a22 a23 a24 a25 a26 q s a32 a33 m a35 a36 j D C;have r : k < b.ops.length:=(by omega);have hd : b.ops.drop k = b.ops[k] :: b.ops.drop (k + 1):=ya r;have hm:=yh r;have B:=zsh b.ops[k] (w.op _ hm).1 (w.op _ hm).2;have u:=fun a2 a6 a7 a8 a h e o l p a20 n a22 a23 a24 a25 a26 q m a35 a36 j => zIb f level x y z dd g caps σ hck hσ hcaps ask hask b b.ops[k] w hm (A.2 _ hm) i k (zaa b.ops[k]).length 0 a2 a6 a7 a8 a h e o l p a20 n a22 a23 a24 a25 a26 q m a35 a36 j (by omega) (by omega);rw [xl zcW rfl,zeX,hd,zk,zif];simp only [yi,ye] at u;have e2 : zy b.ops[k] i k 0 (zaa b.ops[k]) = zln b.ops[k] i k:=rfl;rw [e2] at u;simp -implicitDefEqProofs only [go_sem] at B
   by_cases c : zab ask (zln b.ops[k] i k) = 0
   ·have:=ih (k + 1) vU vU vU vU vU vU vU vU vU vU vU vU vU vU vU vU vU vU vU vU vU vU vU vU vU vU vU (by omega) (by omega)
    simp -implicitDefEqProofs only [go_sem,c] at this u;simp -implicitDefEqProofs only [go_sem,ilt r,zt r,ro,B,u,c,za r w.ops,v,Ok.up hσ,zgU hck,Ok.at hσ,zgS hck,this]
   ·simp -implicitDefEqProofs only [go_sem,c] at u
    simp -implicitDefEqProofs only [go_sem,ilt r,zt r,ro,B,u,c]
theorem zIK (hf : okF f) (I : ∀ b ∈ f.blocks,zlj b) : ∀ (d k : Nat) (a2 a4 a5 a6 a7 a8 a9 t l n m s A C a20 r a22 a23 a24 a25 a26 a27 a28 a29 v o a32 a33 q a35 a36 p : V),f.blocks.length - k = d → k ≤ f.blocks.length →
  exec T zcA ⟨[.one (.ptr 1 0 0 0),zEY g caps,a2,vI 0,a4,a5,a6,a7,a8,a9,t,l,n,m,vL (f.blocks.map rb),vI f.blocks.length,vI k,s,A,C,a20,r,a22,a23,a24,a25,a26,a27,a28,a29,v,o,a32,a33,q,a35,a36,p],σ,σ.length,σ.length⟩ =
   some (if zab ask (zaH f k (f.blocks.drop k)) = 0 then (.exit 0,⟨[vU,vU,vU,vI 0,vU,vU,vU,vU,vU,vU,vU,vU,vU,vU,vU,vU,vU,vU,vU,vU,vU,vU,vU,vU,vU,vU,vU,vU,vU,vU,vU,vU,vU,vU,vU,vU,vU,vU],σ,σ.length,σ.length⟩)
    else (.goto 0,⟨[vU,vU,vU,vI (zab ask (zaH f k (f.blocks.drop k))),vU,vU,vU,vU,vU,vU,vU,vU,vU,vU,vU,vU,vU,vU,vU,vU,vU,vU,vU,vU,vU,vU,vU,vU,vU,vU,vU,vU,vU,vU,vU,vU,vU,vU],σ,σ.length,σ.length⟩)):=by
 intro d;have i:=fun k => zfU (ys σ.length k) caps hcaps;have h:=zdm hck
 induction d with
 | zero =>
   intro k a2 a4 a5 a6 a7 a8 a9 t l n m s A C a20 r a22 a23 a24 a25 a26 a27 a28 a29 v o a32 a33 q a35 a36 p N M;have a : k = f.blocks.length:=(by omega);subst a;rw [xl zcA rfl,zfi];simp -implicitDefEqProofs only [go_sem,yg,yf,zaH,zab]
 | succ d ih =>
   intro k a2 a4 a5 a6 a7 a8 a9 t l n m s A C a20 r a22 a23 a24 a25 a26 a27 a28 a29 v o a32 a33 q a35 a36 p N M;have a : k < f.blocks.length:=(by omega);have hd : f.blocks.drop k = f.blocks[k] :: f.blocks.drop (k + 1):=ya a;have hm:=yh a;have L:=hf.block _ hm;have w:=fun a2 a6 a7 a8 a9 t l n m s r a22 a23 a24 a25 a26 a27 a28 a29 v o a32 a33 q a35 a36 p => zIw f level x y z dd g caps σ hck hσ hcaps ask hask f.blocks[k] L (I _ hm) k f.blocks[k].phis.length 0 a2 a6 a7 a8 a9 t l n m s r a22 a23 a24 a25 a26 a27 a28 a29 v o a32 a33 q a35 a36 p (by omega) (by omega);have D:=fun a2 a6 a7 a8 a9 t l n m s A C a20 r a22 a23 a24 a25 a26 v o a32 a33 q a35 a36 p => zIr f level x y z dd g caps σ hck hσ hcaps ask hask f.blocks[k] L (I _ hm) k f.blocks[k].ops.length 0 a2 a6 a7 a8 a9 t l n m s A C a20 r a22 a23 a24 a25 a26 v o a32 a33 q a35 a36 p (by omega) (by omega);rw [xl zcA rfl,zfi,hd,zaH,zif,zgE,zif,zif];simp only [yi,ye] at w D
   by_cases c6 : zab ask (zaF f.blocks[k].phis) = 0
   ·by_cases c8 : zab ask (zk k 0 f.blocks[k].ops) = 0
    ·have:=ih (k + 1) vU vU vU vU vU vU vU vU vU vU vU vU vU vU vU vU vU vU vU vU vU vU vU vU vU vU vU vU vU vU vU vU (by omega) (by omega)
     simp -implicitDefEqProofs only [go_sem,c6,c8] at this w D;have J:=fun u => hask [.cells 0 5 [zx f.blocks[k]],.mp [(0,V.one (.f (.lit (.int .i64 f.ret)))),(2,V.one (.f (.lit (.int .i64 1))))]] ⟨f.blocks[k].arg,(u,1),k,zlu⟩ (by simp -implicitDefEqProofs only [go_sem]);have B:=fun u => zkF u;simp -implicitDefEqProofs only [go_sem,zlu] at J B
     by_cases G : f.blocks[k].kind = 0
     ·have j : (0 : Int) = f.blocks[k].kind:=G.symm
      by_cases H : f.ret = 0
      ·have eu : zbP f k f.blocks[k] = []:=by simp [zbP,zjw,G,H]
       simp -implicitDefEqProofs only [go_sem,ilt a,zt a,rb,w,D,c6,c8,eu,zab,h,hck,eq_true j,eq_true H,H,za a hf.blocks,i,Ok.up hσ,zgU hck,Ok.at hσ,zgS hck,hcaps,this]
      ·have eu : zbP f k f.blocks[k] = [⟨f.blocks[k].arg,(f.ret,1),k,1048576⟩]:=by simp [zbP,zjw,G,H]
       by_cases c : ask ⟨f.blocks[k].arg,(f.ret,1),k,1048576⟩ = 0
       ·simp -implicitDefEqProofs only [go_sem,ilt a,zt a,rb,w,D,c6,c8,eu,zab,h,hck,eq_true j,H,B,J,c,za a hf.blocks,i,Ok.up hσ,zgU hck,Ok.at hσ,zgS hck,hcaps,this]
       ·simp -implicitDefEqProofs only [go_sem,ilt a,zt a,rb,w,D,c6,c8,eu,zab,h,hck,eq_true j,H,B,J,c,i,Ok.up hσ,zgU hck,Ok.at hσ,zgS hck,hcaps]
     ·have j : ¬ (0 : Int) = f.blocks[k].kind:=fun e => G e.symm
      by_cases K : f.blocks[k].kind = 2
      ·have E : (2 : Int) = f.blocks[k].kind:=K.symm
       have eu : zbP f k f.blocks[k] = [⟨f.blocks[k].arg,(1,1),k,1048576⟩]:=by simp [zbP,zjw,G,K]
       by_cases c : ask ⟨f.blocks[k].arg,(1,1),k,1048576⟩ = 0
       ·simp -implicitDefEqProofs only [go_sem,ilt a,zt a,rb,w,D,c6,c8,eu,zab,h,hck,j,eq_true E,B,J,c,za a hf.blocks,i,Ok.up hσ,zgU hck,Ok.at hσ,zgS hck,hcaps,this]
       ·simp -implicitDefEqProofs only [go_sem,ilt a,zt a,rb,w,D,c6,c8,eu,zab,h,hck,j,eq_true E,B,J,c,i,Ok.up hσ,zgU hck,Ok.at hσ,zgS hck,hcaps]
      ·have E : ¬ (2 : Int) = f.blocks[k].kind:=fun e => K e.symm
       have eu : zbP f k f.blocks[k] = []:=(by simp [zbP,zjw,G,K]);simp -implicitDefEqProofs only [go_sem,ilt a,zt a,rb,w,D,c6,c8,eu,zab,h,hck,j,E,za a hf.blocks,i,Ok.up hσ,zgU hck,Ok.at hσ,zgS hck,hcaps,this]
    ·simp -implicitDefEqProofs only [go_sem,c6,c8] at w D
     simp -implicitDefEqProofs only [go_sem,ilt a,zt a,rb,w,D,c6,c8]
   ·simp -implicitDefEqProofs only [go_sem,c6] at w
    simp -implicitDefEqProofs only [go_sem,ilt a,zt a,rb,w,c6]
theorem zrW (hf : okF f) (d : ∀ b ∈ f.blocks,zlj b) : call T 207 [.one (.ptr 1 0 0 0),zEY g caps] σ = some (vI (zab ask (zdU f)),σ):=by
 rw [ze (fn:=zdC) rfl];have h:=fun a2 a4 a5 a6 a7 a8 a9 q a j i p m r a20 o a22 a23 a24 a25 a26 a27 a28 a29 s k a32 a33 n a35 a36 l => zIK f level x y z dd g caps σ hck hσ hcaps ask hask hf d f.blocks.length 0 a2 a4 a5 a6 a7 a8 a9 q a j i p m r a20 o a22 a23 a24 a25 a26 a27 a28 a29 s k a32 a33 n a35 a36 l (by omega) (by omega);simp only [yi,ye] at h;have t:=zdm hck [];have e : zaH f 0 f.blocks = zdU f:=rfl;rw [e] at h
 by_cases c : zab ask (zdU f) = 0
 ·simp -implicitDefEqProofs only [go_sem,c] at h
  simp -implicitDefEqProofs only [go_sem,zdC,zew,ziN,hck,h,c]
 ·simp -implicitDefEqProofs only [go_sem,c] at h
  simp -implicitDefEqProofs only [go_sem,zdC,ziN];rw [zew];simp -implicitDefEqProofs only [go_sem,hck,h,ziN]
end
theorem zt3 (o : POp) (e : ztZ o) : call T 128 [vOp o] [] = some (vSs (zaa o),[]):=by
 rw [ze (fn:=zdf) rfl];have a:=znD o e;cases hm : zeO o
 ·simp -implicitDefEqProofs only [go_sem,hm] at a
  simp -implicitDefEqProofs only [go_sem,zdf,zaa,hm,a,Bool.false_eq_true,yr]
 simp -implicitDefEqProofs only [go_sem,hm] at a;have h:=fun a0 a2 a5 a6 a7 a8 a9 i b d c j f k g => zyv o e hm o.args.length 0 a0 a2 a5 a6 a7 a8 a9 i b d c j f k g (by omega) (by omega);rw [zBn hm e.1.1] at h;simp only [ye,List.range_zero,yr] at h;simp -implicitDefEqProofs only [go_sem] at h;simp -implicitDefEqProofs only [go_sem,zdf,zaa,hm,a,h]
def rU (u : Use) : List Fz:=[ei u.v,ei u.block,ei u.at',ei u.shape.1,ei u.shape.2]
abbrev vUs (l : List Use) : V:=.one (.f (.sl (l.map rU)))
attribute [go_sem] vUs
def zp (v : Int) : Nat → List Use → Int
 | _,[] => -1
 | k,u :: r => if u.v = v then (k : Int) else zp v (k + 1) r
theorem zAS (l : List Use) (v : Int) (e : l.length ≤ 4294967296) : ∀ (d k : Nat) (a2 a4 a5 : V),l.length - k = d → k ≤ l.length →
  exec T zcX ⟨[vUs l,vI v,a2,vI k,a4,a5],[],0,0⟩ = some (if zp v k (l.drop k) = -1 then (.exit 0,⟨[vU,vU,vU,vU,vU,vU],[],0,0⟩) else (.ret,⟨[vU,vU,vI (zp v k (l.drop k)),vU,vU,vU],[],0,0⟩)):=by
 intro d
 induction d with
 | zero =>
   intro k a2 a4 a5 b g;have a : k = l.length:=(by omega);subst a;rw [xl zcX rfl,zeV];simp -implicitDefEqProofs only [go_sem,yg,yb,yf,zp]
 | succ d ih =>
   intro k a2 a4 a5 b g;have a : k < l.length:=(by omega);have hd : l.drop k = l[k] :: l.drop (k + 1):=ya a;have:=ih (k + 1) vU vU vU (by omega) (by omega);rw [xl zcX rfl,zeV,hd,zp];simp -implicitDefEqProofs only [go_sem] at this
   by_cases c : l[k].v = v
   ·have f : ¬ (k : Int) = -1:=by omega
    rw [if_pos c,if_neg f];simp -implicitDefEqProofs only [go_sem,ilt a,zt a,rU,yb,c,yk,ym]
   ·rw [if_neg c]
    simp -implicitDefEqProofs only [go_sem,ilt a,zt a,rU,yb,c,yk,ym,za a e,this]
theorem zi9 (l : List Use) (v : Int) (a : l.length ≤ 4294967296) : call T 75 [vUs l,vI v] [] = some (vI (zp v 0 l),[]):=by
 rw [ze (fn:=zdz) rfl];have h:=fun a2 a4 a5 => zAS l v a l.length 0 a2 a4 a5 (by omega) (by omega);simp only [ye,yi] at h
 by_cases c : zp v 0 l = -1
 ·simp -implicitDefEqProofs only [go_sem,eq_true c] at h
  simp -implicitDefEqProofs only [go_sem,zdz,h,c]
 ·simp -implicitDefEqProofs only [go_sem,c] at h
  simp -implicitDefEqProofs only [go_sem,zdz,h]
def zaS : Nat → List Int → List Use
 | _,[] => []
 | k,b :: r => ⟨(k : Int) + 1,(b,1),-1,0⟩ :: zaS (k + 1) r
def zdk (i : Int) (l : List PPhi) : List Use:=l.map fun p => ⟨p.dst,(p.bits,1),i,-1⟩
def zed (i : Int) : Nat → List POp → List Use
 | _,[] => []
 | k,o :: r => if 0 < (zJ o).1 then ⟨o.dst,zJ o,i,(k : Int)⟩ :: zed i (k + 1) r else zed i (k + 1) r
def zah : Nat → List PBlock → List Use
 | _,[] => []
 | k,b :: r => zdk k b.phis ++ (zed k 0 b.ops ++ zah (k + 1) r)
def zD (f : PFunc) : List Use:=zaS 0 f.params ++ zah 0 f.blocks
theorem zhH : ∀ (l : List Int) (k : Nat),(zaS k l).length = l.length
 | [],_ => rfl
 | b :: r,k => by rw [zaS,yd,zhH r,yd]
theorem zkf (i : Int) : ∀ (l : List POp) (k : Nat),(zed i k l).length ≤ l.length
 | [],_ => by simp [zed]
 | o :: r,k => by
   have:=zkf i r (k + 1);rw [zed];split <;> simp only [yd] <;> omega
section
variable (f : PFunc) (hf : okF f)
abbrev zhg (n : Nat) (r : zd) : zd:=.cells 0 3 [zaP f] :: .tok 5 [n] :: r
include hf
theorem zEb : ∀ (d k : Nat) (acc : List Use) (a0 a2 a5 a6 a7 a8 a9 g a c b h e : V),f.params.length - k = d → k ≤ f.params.length → acc.length + d ≤ 4294967296 →
  exec T zcY ⟨[a0,.one (.ptr 0 0 0 0),a2,.one (.ap 1 0 (acc.map rU)),vI k,a5,a6,a7,a8,a9,g,a,c,b,h,e],zhg f acc.length [],0,0⟩ =
   some (.exit 0,⟨[vU,.one (.ptr 0 0 0 0),vU,.one (.ap 1 0 ((acc ++ zaS k (f.params.drop k)).map rU)),vU,vU,vU,vU,vU,vU,vU,vU,vU,vU,vU,vU],zhg f (acc ++ zaS k (f.params.drop k)).length [],0,0⟩):=by
 intro d
 induction d with
 | zero =>
   intro k acc a0 a2 a5 a6 a7 a8 a9 g a c b h e n l m;have i : k = f.params.length:=(by omega);subst i;rw [xl zcY rfl,zeW];simp -implicitDefEqProofs only [go_sem,zhg,yg,yb,yf,zaS,yn]
 | succ d ih =>
   intro k acc a0 a2 a5 a6 a7 a8 a9 g a c b h e n l m;have i : k < f.params.length:=(by omega);have hd : f.params.drop k = f.params[k] :: f.params.drop (k + 1):=ya i;have j : acc.length + 1 ≤ LIM:=(by unfold LIM; omega);have:=ih (k + 1) (acc ++ [⟨(k : Int) + 1,(f.params[k],1),-1,0⟩]) vU vU vU vU vU vU vU vU vU vU vU vU vU (by omega) (by omega) (by simp; omega);have e1 : yv rU acc ++ [[Fz.lit (Value.int .i64 ((k + 1 : Nat) : Int)),Fz.lit (Value.int .i64 (-1)),Fz.lit (Value.int .i64 0),Fz.lit (Value.int .i64 f.params[k]),Fz.lit (Value.int .i64 1)]] = yv rU (acc ++ [⟨(k : Int) + 1,(f.params[k],1),-1,0⟩]):=(by simp [rU]);rw [yj,yq] at this;rw [xl zcY rfl,zeW,hd,zaS];simp -implicitDefEqProofs only [go_sem,zhg,yc,yd,yp,yt] at this;simp -implicitDefEqProofs only [go_sem,zhg,ilt i,zt i,ri,yb,za i hf.params,j,e1,yc,yd,this]
theorem zD0 (b : PBlock) (n : okB b) (i : Nat) : ∀ (d k : Nat) (acc : List Use) (a0 a2 a4 a8 a9 h a e c j g : V),b.phis.length - k = d → k ≤ b.phis.length → acc.length + d ≤ 4294967296 →
  exec T zc7 ⟨[a0,.one (.ptr 0 0 0 0),a2,.one (.ap 1 0 (acc.map rU)),a4,vI i,.one (.ptr 2 0 0 0),vI k,a8,a9,h,a,e,c,j,g],zhg f acc.length [.cells 0 5 [zx b]],0,0⟩ =
   some (.exit 4,⟨[vU,.one (.ptr 0 0 0 0),vU,.one (.ap 1 0 ((acc ++ zdk i (b.phis.drop k)).map rU)),vU,vI i,.one (.ptr 2 0 0 0),vU,vU,vU,vU,vU,vU,vU,vU,vU],zhg f (acc ++ zdk i (b.phis.drop k)).length [.cells 0 5 [zx b]],0,0⟩):=by
 intro d
 induction d with
 | zero =>
   intro k acc a0 a2 a4 a8 a9 h a e c j g q o p;have l : k = b.phis.length:=(by omega);subst l;rw [xl zc7 rfl,zft];simp -implicitDefEqProofs only [go_sem,zhg,yg,yb,yf,zdk,yr,yn]
 | succ d ih =>
   intro k acc a0 a2 a4 a8 a9 h a e c j g q o p;have l : k < b.phis.length:=(by omega);have hd : b.phis.drop k = b.phis[k] :: b.phis.drop (k + 1):=ya l;have m : acc.length + 1 ≤ LIM:=(by unfold LIM; omega);have:=ih (k + 1) (acc ++ [⟨b.phis[k].dst,(b.phis[k].bits,1),i,-1⟩]) vU vU vU vU vU vU vU vU vU vU vU (by omega) (by omega) (by simp; omega);have e1 : yv rU acc ++ [[Fz.lit (Value.int .i64 b.phis[k].dst),Fz.lit (Value.int .i64 (i : Int)),Fz.lit (Value.int .i64 (-1)),Fz.lit (Value.int .i64 b.phis[k].bits),Fz.lit (Value.int .i64 1)]] = yv rU (acc ++ [⟨b.phis[k].dst,(b.phis[k].bits,1),i,-1⟩]):=(by simp [rU]);have e2 : zdk (i : Int) (b.phis[k] :: b.phis.drop (k + 1)) = ⟨b.phis[k].dst,(b.phis[k].bits,1),i,-1⟩ :: zdk i (b.phis.drop (k + 1)):=rfl;rw [yj,yq] at this;rw [xl zc7 rfl,zft,hd,e2];simp -implicitDefEqProofs only [go_sem,zhg,yc,yd,yp,yt] at this;simp -implicitDefEqProofs only [go_sem,zhg,ilt l,zt l,rp,yb,za l n.phis,m,e1,yc,yd,this]
theorem zEI (b : PBlock) (o : okB b) (i : Nat) : ∀ (d k : Nat) (acc : List Use) (a0 a2 a4 a7 a9 l e h g m j : V),b.ops.length - k = d → k ≤ b.ops.length → acc.length + d ≤ 4294967296 →
  exec T zcK ⟨[a0,.one (.ptr 0 0 0 0),a2,.one (.ap 1 0 (acc.map rU)),a4,vI i,.one (.ptr 2 0 0 0),a7,vI k,a9,l,e,h,g,m,j],zhg f acc.length [.cells 0 5 [zx b]],0,0⟩ =
   some (.exit 6,⟨[vU,.one (.ptr 0 0 0 0),vU,.one (.ap 1 0 ((acc ++ zed i k (b.ops.drop k)).map rU)),vU,vI i,vU,vU,vU,vU,vU,vU,vU,vU,vU,vU],zhg f (acc ++ zed i k (b.ops.drop k)).length [.cells 0 5 [zx b]],0,0⟩):=by
 intro d
 induction d with
 | zero =>
   intro k acc a0 a2 a4 a7 a9 l e h g m j t r s;have a : k = b.ops.length:=(by omega);subst a;rw [xl zcK rfl,zfg];simp -implicitDefEqProofs only [go_sem,zhg,yg,yb,yf,zed,yn]
 | succ d ih =>
   intro k acc a0 a2 a4 a7 a9 l e h g m j t r s;have a : k < b.ops.length:=(by omega);have hd : b.ops.drop k = b.ops[k] :: b.ops.drop (k + 1):=ya a;have n : acc.length + 1 ≤ LIM:=(by unfold LIM; omega);have p:=zuO b.ops[k] (o.op _ (yh a));rw [xl zcK rfl,zfg,hd,zed];simp -implicitDefEqProofs only [go_sem] at p
   by_cases c : 0 < (zJ b.ops[k]).1
   ·have q : (zJ b.ops[k]).1 > 0:=c
    have:=ih (k + 1) (acc ++ [⟨b.ops[k].dst,zJ b.ops[k],i,(k : Int)⟩]) vU vU vU vU vU vU vU vU vU vU vU (by omega) (by omega) (by simp; omega);have e1 : yv rU acc ++ [[Fz.lit (Value.int .i64 b.ops[k].dst),Fz.lit (Value.int .i64 (i : Int)),Fz.lit (Value.int .i64 (k : Int)),Fz.lit (Value.int .i64 (zJ b.ops[k]).1),Fz.lit (Value.int .i64 (zJ b.ops[k]).2)]] = yv rU (acc ++ [⟨b.ops[k].dst,zJ b.ops[k],i,(k : Int)⟩]):=(by simp [rU]);rw [yj,yq] at this;rw [if_pos c];simp -implicitDefEqProofs only [go_sem,zhg,yc,yd,yp,yt] at this;simp -implicitDefEqProofs only [go_sem,zhg,ilt a,zt a,ro,yb,p,eq_true q,za a o.ops,n,e1,yc,yd,this]
   ·have q : ¬ (zJ b.ops[k]).1 > 0:=c
    have:=ih (k + 1) acc vU vU vU vU vU vU vU vU vU vU vU (by omega) (by omega) (by omega);rw [if_neg c];simp -implicitDefEqProofs only [go_sem,zhg] at this;simp -implicitDefEqProofs only [go_sem,zhg,ilt a,zt a,ro,yb,p,q,za a o.ops,this]
theorem zC0 : ∀ (d k : Nat) (acc : List Use) (a0 a2 a4 a6 a7 a8 a9 h a e c i g : V),f.blocks.length - k = d → k ≤ f.blocks.length → acc.length + ((f.blocks.drop k).map fun b => b.phis.length + b.ops.length).sum ≤ 4294967296 →
  exec T zdd ⟨[a0,.one (.ptr 0 0 0 0),a2,.one (.ap 1 0 (acc.map rU)),a4,vI k,a6,a7,a8,a9,h,a,e,c,i,g],zhg f acc.length [],0,0⟩ =
   some (.exit 2,⟨[vU,vU,vU,.one (.ap 1 0 ((acc ++ zah k (f.blocks.drop k)).map rU)),vU,vU,vU,vU,vU,vU,vU,vU,vU,vU,vU,vU],zhg f (acc ++ zah k (f.blocks.drop k)).length [],0,0⟩):=by
 intro d
 induction d with
 | zero =>
   intro k acc a0 a2 a4 a6 a7 a8 a9 h a e c i g w v q;have j : k = f.blocks.length:=(by omega);subst j;rw [xl zdd rfl,zfo];simp -implicitDefEqProofs only [go_sem,zhg,yg,yb,yf,zah,yn]
 | succ d ih =>
   intro k acc a0 a2 a4 a6 a7 a8 a9 h a e c i g w v q;have j : k < f.blocks.length:=(by omega);have hd : f.blocks.drop k = f.blocks[k] :: f.blocks.drop (k + 1):=ya j;obtain ⟨b,m⟩ : ∃ b,b = f.blocks[k]:=⟨_,rfl⟩;have o:=hf.block _ (yh j);have t:=zt (r:=rb) j;rw [hd,yz,List.sum_cons] at q;rw [← m] at o t q;have u : (zdk (k : Int) b.phis).length = b.phis.length:=(by simp [zdk]);have lo:=zkf (k : Int) b.ops 0;have n:=fun a0 a2 a4 a8 a9 h a e c i g => zD0 f hf b o k b.phis.length 0 acc a0 a2 a4 a8 a9 h a e c i g (by omega) (by omega) (by omega);have l:=fun a0 a2 a4 a7 a9 h a e c i g => zEI f hf b o k b.ops.length 0 (acc ++ zdk k b.phis) a0 a2 a4 a7 a9 h a e c i g (by omega) (by omega) (by rw [yc,u]; omega);have:=ih (k + 1) (acc ++ zdk k b.phis ++ zed k 0 b.ops) vU vU vU vU vU vU vU vU vU vU vU vU vU (by omega) (by omega) (by rw [yc,yc,u]; omega);simp only [ye,yi] at n l;rw [xl zdd rfl,zfo,hd,zah,← m];rw [yj,yj] at this;rw [yj] at l;obtain ⟨a1,s⟩ : ∃ a1,a1 = acc ++ zdk (k : Int) b.phis:=⟨_,rfl⟩;obtain ⟨a2,p⟩ : ∃ a2,a2 = acc ++ (zdk (k : Int) b.phis ++ zed (k : Int) 0 b.ops):=⟨_,rfl⟩;simp only [← s] at n l;simp only [← p] at l this;simp -implicitDefEqProofs only [go_sem,zhg] at this n l;simp -implicitDefEqProofs only [go_sem,zhg,ilt j,t,rb,yb,n,l,za j hf.blocks,this]
end
theorem zwP (f : PFunc) (hf : okF f) (k : f.params.length + (f.blocks.map fun b => b.phis.length + b.ops.length).sum ≤ 4294967296) : call T 73 [za9 f] [] = some (vUs (zD f),[]):=by
 rw [ze (fn:=zfH) rfl];have i:=fun a0 a2 a5 a6 a7 a8 a9 g a d c h e => zEb f hf f.params.length 0 [] a0 a2 a5 a6 a7 a8 a9 g a d c h e (by omega) (by omega) (by simp; omega);have j:=fun a0 a2 a4 a6 a7 a8 a9 g a d c h e => zC0 f hf f.blocks.length 0 (zaS 0 f.params) a0 a2 a4 a6 a7 a8 a9 g a d c h e (by omega) (by omega) (by rw [zhH]; simpa using k);simp only [ye,yi,yD,yr,yp] at i j;simp -implicitDefEqProofs only [go_sem,zhg] at i j;simp -implicitDefEqProofs only [go_sem,zfH,i,j,zD]
def zad (u : Use) : Use:=⟨u.v,u.shape,u.block,if u.at' = 1048576 then 1000 else u.at'⟩
section
variable (f : PFunc) (hf : okF f) (hret : ¬ f.ret = 0)
include hf
theorem zBI (b : PBlock) (p : PPhi) (u : zJr p) (hlen : p.args.length = p.src.length) (i t : Int) : ∀ (d k : Nat) (acc : List Use) (a0 a2 a9 m a e c n h o j g : V),p.args.length - k = d → k ≤ p.args.length → acc.length + d ≤ 4294967296 →
  exec T zcH ⟨[a0,.one (.ptr 0 0 0 0),a2,.one (.ap 1 0 (acc.map rU)),vI i,.one (.ptr 2 0 0 0),vI t,.one (.ptr 3 0 0 0),vI k,a9,m,a,e,c,n,h,o,j,g],zhg f acc.length [.cells 0 5 [zx b],.cells 0 4 [zyy p]],0,0⟩ =
   some (.exit 4,⟨[vU,.one (.ptr 0 0 0 0),vU,.one (.ap 1 0 ((acc ++ (zX p k (p.args.drop k)).map zad).map rU)),vI i,.one (.ptr 2 0 0 0),vI t,vU,vU,vU,vU,vU,vU,vU,vU,vU,vU,vU,vU],zhg f (acc ++ (zX p k (p.args.drop k)).map zad).length [.cells 0 5 [zx b],.cells 0 4 [zyy p]],0,0⟩):=by
 intro d
 induction d with
 | zero =>
   intro k acc a0 a2 a9 m a e c n h o j g x v w;have q : k = p.args.length:=(by omega);subst q;rw [xl zcH rfl,zfj];simp -implicitDefEqProofs only [go_sem,zhg,yg,yb,yf,zX,yr,yn]
 | succ d ih =>
   intro k acc a0 a2 a9 m a e c n h o j g x v w;have q : k < p.args.length:=(by omega);have l : k < p.src.length:=(by omega);have hd : p.args.drop k = p.args[k] :: p.args.drop (k + 1):=ya q;have r : acc.length + 1 ≤ LIM:=(by unfold LIM; omega);have s : p.src.getD k 0 = p.src[k]:=(by rw [yl,yy l]; rfl);have:=ih (k + 1) (acc ++ [⟨p.args[k],(p.bits,1),p.src[k],1000⟩]) vU vU vU vU vU vU vU vU vU vU vU vU (by omega) (by omega) (by simp; omega);have e1 : yv rU acc ++ [[Fz.lit (Value.int .i64 p.args[k]),Fz.lit (Value.int .i64 p.src[k]),Fz.lit (Value.int .i64 1000),Fz.lit (Value.int .i64 p.bits),Fz.lit (Value.int .i64 1)]] = yv rU (acc ++ [⟨p.args[k],(p.bits,1),p.src[k],1000⟩]):=by simp [rU]
   have e2 : (zX p k (p.args[k] :: p.args.drop (k + 1))).map zad = ⟨p.args[k],(p.bits,1),p.src[k],1000⟩ :: (zX p (k + 1) (p.args.drop (k + 1))).map zad:=by
    rw [zX,yz,s];rfl
   rw [yj,yq] at this;rw [xl zcH rfl,zfj,hd,e2];simp -implicitDefEqProofs only [go_sem,zhg,yc,yd,yp,yt] at this;simp -implicitDefEqProofs only [go_sem,zhg,ilt q,ilt l,zt q,zt l,ri,yb,za q u.2,r,e1,yc,yd,this]
theorem zCK (b : PBlock) (w : okB b) (u : zlj b) (i : Int) : ∀ (d k : Nat) (acc : List Use) (a0 a2 a7 a8 a9 n a e c o m p h g : V),b.phis.length - k = d → k ≤ b.phis.length → acc.length + (zaF (b.phis.drop k)).length ≤ 4294967296 →
  exec T zc1 ⟨[a0,.one (.ptr 0 0 0 0),a2,.one (.ap 1 0 (acc.map rU)),vI i,.one (.ptr 2 0 0 0),vI k,a7,a8,a9,n,a,e,c,o,m,p,h,g],zhg f acc.length [.cells 0 5 [zx b]],0,0⟩ =
   some (.exit 2,⟨[vU,.one (.ptr 0 0 0 0),vU,.one (.ap 1 0 ((acc ++ (zaF (b.phis.drop k)).map zad).map rU)),vI i,.one (.ptr 2 0 0 0),vU,vU,vU,vU,vU,vU,vU,vU,vU,vU,vU,vU,vU],zhg f (acc ++ (zaF (b.phis.drop k)).map zad).length [.cells 0 5 [zx b]],0,0⟩):=by
 intro d
 induction d with
 | zero =>
   intro k acc a0 a2 a7 a8 a9 n a e c o m p h g B A y;have q : k = b.phis.length:=(by omega);subst q;rw [xl zc1 rfl,ze5];simp -implicitDefEqProofs only [go_sem,zhg,yg,yb,yf,zaF,yC,yr,yn]
 | succ d ih =>
   intro k acc a0 a2 a7 a8 a9 n a e c o m p h g B A y;have q : k < b.phis.length:=(by omega);have hd : b.phis.drop k = b.phis[k] :: b.phis.drop (k + 1):=ya q;have e0 : zaF (b.phis[k] :: b.phis.drop (k + 1)) = zg4 b.phis[k] ++ zaF (b.phis.drop (k + 1)):=rfl;have z:=w.phi _ (yh q);have hle:=u.1 _ (yh q)
   have v : ∀ (l : List Int) (j : Nat),(zX b.phis[k] j l).length = l.length:=by
    intro l
    induction l with
    | nil => intro j; rfl
    | cons x l ih => intro j; rw [zX,yd,ih,yd]
   have s : (zg4 b.phis[k]).length = b.phis[k].args.length:=v _ 0;rw [hd,e0,yc,s] at y;have r:=fun a0 a2 a9 n a e c o m p h g => zBI f hf b b.phis[k] z hle i k b.phis[k].args.length 0 acc a0 a2 a9 n a e c o m p h g (by omega) (by omega) (by omega);simp only [ye,yi] at r;have e1 : zX b.phis[k] 0 b.phis[k].args = zg4 b.phis[k]:=rfl;rw [e1] at r;have:=ih (k + 1) (acc ++ (zg4 b.phis[k]).map zad) vU vU vU vU vU vU vU vU vU vU vU vU vU vU (by omega) (by omega) (by rw [yc,yb,s]; omega);have e3 : acc ++ (zg4 b.phis[k] ++ zaF (b.phis.drop (k + 1))).map zad = (acc ++ (zg4 b.phis[k]).map zad) ++ (zaF (b.phis.drop (k + 1))).map zad:=(by rw [yw,yj]);rw [xl zc1 rfl,ze5,hd,e0,e3];obtain ⟨a1,t⟩ : ∃ a1,a1 = acc ++ (zg4 b.phis[k]).map zad:=⟨_,rfl⟩;rw [← t] at this ⊢;simp only [← t] at r;simp -implicitDefEqProofs only [go_sem,zhg] at r this;simp -implicitDefEqProofs only [go_sem,zhg,ilt q,zt q,rp,yb,r,za q w.phis,this]
theorem zDK (b : PBlock) (u : okB b) (i : Int) (a : Nat) (n : a < b.ops.length) (s : ¬ (a : Int) = 1048576) (l : List (Int × Int)) (z : l.length ≤ b.ops[a].args.length) : ∀ (d k : Nat) (acc : List Use) (a0 a2 a6 a7 a8 e c o h p m g : V),l.length - k = d → k ≤ l.length → acc.length + d ≤ 4294967296 →
  exec T zcE ⟨[a0,.one (.ptr 0 0 0 0),a2,.one (.ap 1 0 (acc.map rU)),vI i,.one (.ptr 2 0 0 0),a6,a7,a8,vI a,vSs l,vI k,e,c,o,h,p,m,g],zhg f acc.length [.cells 0 5 [zx b]],0,0⟩ =
   some (.exit 8,⟨[vU,.one (.ptr 0 0 0 0),vU,.one (.ap 1 0 ((acc ++ (zy b.ops[a] i a k (l.drop k)).map zad).map rU)),vI i,.one (.ptr 2 0 0 0),vU,vU,vU,vI a,vU,vU,vU,vU,vU,vU,vU,vU,vU],zhg f (acc ++ (zy b.ops[a] i a k (l.drop k)).map zad).length [.cells 0 5 [zx b]],0,0⟩):=by
 intro d
 induction d with
 | zero =>
   intro k acc a0 a2 a6 a7 a8 e c o h p m g y v w;have q : k = l.length:=(by omega);subst q;rw [xl zcE rfl,ze7];simp -implicitDefEqProofs only [go_sem,zhg,yg,yb,yf,zy,yr,yn]
 | succ d ih =>
   intro k acc a0 a2 a6 a7 a8 e c o h p m g y v w;have q : k < l.length:=(by omega);have j : k < b.ops[a].args.length:=(by omega);have x:=(u.op _ (yh n)).2;have hd : l.drop k = l[k] :: l.drop (k + 1):=ya q;have r : acc.length + 1 ≤ LIM:=(by unfold LIM; omega);have t : b.ops[a].args.getD k 0 = b.ops[a].args[k]:=(by rw [yl,yy j]; rfl);have:=ih (k + 1) (acc ++ [⟨b.ops[a].args[k],l[k],i,(a : Int)⟩]) vU vU vU vU vU vU vU vU vU vU vU vU (by omega) (by omega) (by simp; omega);have e1 : yv rU acc ++ [[Fz.lit (Value.int .i64 b.ops[a].args[k]),Fz.lit (Value.int .i64 i),Fz.lit (Value.int .i64 (a : Int)),Fz.lit (Value.int .i64 l[k].1),Fz.lit (Value.int .i64 l[k].2)]] = yv rU (acc ++ [⟨b.ops[a].args[k],l[k],i,(a : Int)⟩]):=by simp [rU]
   have e2 : (zy b.ops[a] i a k (l[k] :: l.drop (k + 1))).map zad = ⟨b.ops[a].args[k],l[k],i,(a : Int)⟩ :: (zy b.ops[a] i a (k + 1) (l.drop (k + 1))).map zad:=by
    rw [zy,yz,t];unfold zad;simp only [if_neg s]
   rw [yj,yq] at this;rw [xl zcE rfl,ze7,hd,e2];simp -implicitDefEqProofs only [go_sem,zhg,yc,yd,yp,yt] at this;simp -implicitDefEqProofs only [go_sem,zhg,ilt q,ilt j,ilt n,zt q,zt j,zt n,ri,rs,ro,yb,za q (show l.length ≤ 4294967296 by omega),r,e1,yc,yd,yk,ym,this]
theorem zjS (o : POp) (i at' : Int) : ∀ (l : List (Int × Int)) (k : Nat),(zy o i at' k l).length = l.length
 | [],_ => rfl
 | s :: r,k => by rw [zy,yd,zjS o i at' r,yd]
theorem zEK (b : PBlock) (t : okB b) (s : zlj b) (x : b.ops.length ≤ 1048576) (i : Int) : ∀ (d k : Nat) (acc : List Use) (a0 a2 a6 a7 a8 o n c a j g l h e : V),b.ops.length - k = d → k ≤ b.ops.length → acc.length + (zk i k (b.ops.drop k)).length ≤ 4294967296 →
  exec T zcS ⟨[a0,.one (.ptr 0 0 0 0),a2,.one (.ap 1 0 (acc.map rU)),vI i,.one (.ptr 2 0 0 0),a6,a7,a8,vI k,o,n,c,a,j,g,l,h,e],zhg f acc.length [.cells 0 5 [zx b]],0,0⟩ =
   some (.exit 6,⟨[vU,.one (.ptr 0 0 0 0),vU,.one (.ap 1 0 ((acc ++ (zk i k (b.ops.drop k)).map zad).map rU)),vI i,.one (.ptr 2 0 0 0),vU,vU,vU,vU,vU,vU,vU,vU,vU,vU,vU,vU,vU],zhg f (acc ++ (zk i k (b.ops.drop k)).map zad).length [.cells 0 5 [zx b]],0,0⟩):=by
 intro d
 induction d with
 | zero =>
   intro k acc a0 a2 a6 a7 a8 o n c a j g l h e y w v;have m : k = b.ops.length:=(by omega);subst m;rw [xl zcS rfl,zfq];simp -implicitDefEqProofs only [go_sem,zhg,yg,yb,yf,zk,yr,yn]
 | succ d ih =>
   intro k acc a0 a2 a6 a7 a8 o n c a j g l h e y w v;have m : k < b.ops.length:=(by omega);have hd : b.ops.drop k = b.ops[k] :: b.ops.drop (k + 1):=ya m;have u:=zt3 b.ops[k] (t.op _ (yh m));have hle:=s.2 _ (yh m);have q : (zln b.ops[k] i (k : Int)).length = (zaa b.ops[k]).length:=zjS f hf _ i k _ 0;rw [hd,zk,yc,q] at v;have p:=fun a0 a2 a6 a7 a8 c a j g l h e => zDK f hf b t i k m (by omega) (zaa b.ops[k]) hle (zaa b.ops[k]).length 0 acc a0 a2 a6 a7 a8 c a j g l h e (by omega) (by omega) (by omega);simp only [ye,yi] at p;have e1 : zy b.ops[k] i k 0 (zaa b.ops[k]) = zln b.ops[k] i k:=rfl;rw [e1] at p;have:=ih (k + 1) (acc ++ (zln b.ops[k] i k).map zad) vU vU vU vU vU vU vU vU vU vU vU vU vU vU (by omega) (by omega) (by rw [yc,yb,q]; omega);have e3 : acc ++ (zln b.ops[k] i k ++ zk i (k + 1) (b.ops.drop (k + 1))).map zad = (acc ++ (zln b.ops[k] i k).map zad) ++ (zk i (k + 1) (b.ops.drop (k + 1))).map zad:=(by rw [yw,yj]);rw [xl zcS rfl,zfq,hd,zk,e3];obtain ⟨a1,r⟩ : ∃ a1,a1 = acc ++ (zln b.ops[k] i k).map zad:=⟨_,rfl⟩;rw [← r] at this ⊢;simp only [← r] at p;simp -implicitDefEqProofs only [go_sem] at u;simp -implicitDefEqProofs only [go_sem,zhg] at p this;simp -implicitDefEqProofs only [go_sem,zhg,ilt m,zt m,ro,yb,u,p,za m t.ops,this]
include hret
theorem zDo (w : ∀ b ∈ f.blocks,zlj b) (y : ∀ b ∈ f.blocks,b.ops.length ≤ 1048576) : ∀ (d k : Nat) (acc : List Use) (a0 a2 a5 a6 a7 a8 a9 j a e c l i m h g : V),f.blocks.length - k = d → k ≤ f.blocks.length → acc.length + (zaH f k (f.blocks.drop k)).length ≤ 4294967296 →
  exec T zcR ⟨[a0,.one (.ptr 0 0 0 0),a2,.one (.ap 1 0 (acc.map rU)),vI k,a5,a6,a7,a8,a9,j,a,e,c,l,i,m,h,g],zhg f acc.length [],0,0⟩ =
   some (.exit 0,⟨[vU,vU,vU,.one (.ap 1 0 ((acc ++ (zaH f k (f.blocks.drop k)).map zad).map rU)),vU,vU,vU,vU,vU,vU,vU,vU,vU,vU,vU,vU,vU,vU,vU],zhg f (acc ++ (zaH f k (f.blocks.drop k)).map zad).length [],0,0⟩):=by
 intro d
 induction d with
 | zero =>
   intro k acc a0 a2 a5 a6 a7 a8 a9 j a e c l i m h g D C B;have n : k = f.blocks.length:=(by omega);subst n;rw [xl zcR rfl,zfh];simp -implicitDefEqProofs only [go_sem,zhg,yg,yb,yf,zaH,yr,yn]
 | succ d ih =>
   intro k acc a0 a2 a5 a6 a7 a8 a9 j a e c l i m h g D C B;have n : k < f.blocks.length:=(by omega);have hd : f.blocks.drop k = f.blocks[k] :: f.blocks.drop (k + 1):=ya n;have o:=yh n;obtain ⟨b,u⟩ : ∃ b,b = f.blocks[k]:=⟨_,rfl⟩;have x:=zt (r:=rb) n;rw [← u] at o x;have z:=hf.block _ o;rw [hd,zaH,← u,zgE,yc,yc,yc] at B;have v:=fun a0 a2 a7 a8 a9 j a e c l i m h g => zCK f hf b z (w b o) k b.phis.length 0 acc a0 a2 a7 a8 a9 j a e c l i m h g (by omega) (by omega) (by rw [yi]; omega);have q:=fun a0 a2 a6 a7 a8 j a e c l i m h g => zEK f hf b z (w b o) (y b o) k b.ops.length 0 (acc ++ (zaF b.phis).map zad) a0 a2 a6 a7 a8 j a e c l i m h g (by omega) (by omega) (by rw [yi,yc,yb]; omega);have:=ih (k + 1) (acc ++ (zaF b.phis).map zad ++ (zk k 0 b.ops).map zad ++ (zbP f k b).map zad) vU vU vU vU vU vU vU vU vU vU vU vU vU vU vU vU (by omega) (by omega) (by simp only [yc,yb]; omega);simp only [ye,yi] at v q
   have e3 : acc ++ (zgE f k b ++ zaH f (k + 1) (f.blocks.drop (k + 1))).map zad = (acc ++ (zaF b.phis).map zad ++ (zk k 0 b.ops).map zad ++ (zbP f k b).map zad) ++ (zaH f (k + 1) (f.blocks.drop (k + 1))).map zad:=by
    rw [zgE];simp only [yw,yj]
   rw [xl zcR rfl,zfh,hd,zaH,← u,e3];obtain ⟨a1,t⟩ : ∃ a1,a1 = acc ++ (zaF b.phis).map zad:=⟨_,rfl⟩;rw [← t] at this ⊢;simp only [← t] at v q;obtain ⟨a2,s⟩ : ∃ a2,a2 = a1 ++ (zk k 0 b.ops).map zad:=⟨_,rfl⟩;rw [← s] at this ⊢;simp only [← s] at q
   have A : a2.length + (zbP f k b).length ≤ 4294967296:=by
    rw [s,t];simp only [yc,yb];omega
   simp -implicitDefEqProofs only [go_sem,zhg] at v q
   by_cases c0 : b.kind = 0
   ·have e0 : (zbP f k b).map zad = [⟨b.arg,(f.ret,1),(k : Int),1000⟩]:=by
     unfold zbP zjw;rw [if_pos c0,if_neg hret];rfl
    have el : (zbP f k b).length = 1:=by
     have:=congrArg yG e0;simpa using this
    have p : a2.length + 1 ≤ LIM:=(by unfold LIM; omega);have n2 : ¬ b.kind = 2:=(by omega);rw [e0] at this ⊢;have e1 : yv rU a2 ++ [[Fz.lit (Value.int .i64 b.arg),Fz.lit (Value.int .i64 (k : Int)),Fz.lit (Value.int .i64 1000),Fz.lit (Value.int .i64 f.ret),Fz.lit (Value.int .i64 1)]] = yv rU (a2 ++ [⟨b.arg,(f.ret,1),(k : Int),1000⟩]):=(by simp [rU]);simp -implicitDefEqProofs only [go_sem,zhg,yc,yd,yp,yt] at this;simp -implicitDefEqProofs only [go_sem,zhg,ilt n,x,rb,yb,v,q,eq_true c0,n2,p,e1,za n hf.blocks,yc,yd,this]
   ·by_cases c2 : b.kind = 2
    ·have e0 : (zbP f k b).map zad = [⟨b.arg,(1,1),(k : Int),1000⟩]:=by
      unfold zbP zjw;rw [if_neg c0,if_pos c2];rfl
     have el : (zbP f k b).length = 1:=by
      have:=congrArg yG e0;simpa using this
     have p : a2.length + 1 ≤ LIM:=(by unfold LIM; omega);rw [e0] at this ⊢;have e1 : yv rU a2 ++ [[Fz.lit (Value.int .i64 b.arg),Fz.lit (Value.int .i64 (k : Int)),Fz.lit (Value.int .i64 1000),Fz.lit (Value.int .i64 1),Fz.lit (Value.int .i64 1)]] = yv rU (a2 ++ [⟨b.arg,(1,1),(k : Int),1000⟩]):=(by simp [rU]);simp -implicitDefEqProofs only [go_sem,zhg,yc,yd,yp,yt] at this;simp -implicitDefEqProofs only [go_sem,zhg,ilt n,x,rb,yb,v,q,c0,eq_true c2,p,e1,za n hf.blocks,yc,yd,this]
    ·have e0 : zbP f k b = []:=by
      unfold zbP zjw;rw [if_neg c0,if_neg c2];rfl
     rw [e0,yr,yn] at this ⊢;simp -implicitDefEqProofs only [go_sem,zhg] at this;simp -implicitDefEqProofs only [go_sem,zhg,ilt n,x,rb,yb,v,q,c0,c2,za n hf.blocks,this]
theorem zvP (c : ∀ b ∈ f.blocks,zlj b) (m : ∀ b ∈ f.blocks,b.ops.length ≤ 1048576) (p : (zdU f).length ≤ 4294967296) : call T 76 [za9 f] [] = some (vUs ((zdU f).map zad),[]):=by
 rw [ze (fn:=zfM) rfl];have h:=fun a0 a2 a5 a6 a7 a8 a9 l a g d n j o k i => zDo f hf hret c m f.blocks.length 0 [] a0 a2 a5 a6 a7 a8 a9 l a g d n j o k i (by omega) (by omega) (by simpa [zdU] using p);have e : zaH f 0 f.blocks = zdU f:=rfl;simp only [ye,yi,yD,yr,yp,e] at h;simp -implicitDefEqProofs only [go_sem,zhg] at h;simp -implicitDefEqProofs only [go_sem,zfM,h]
end
def rbo (b : Bool) : List Fz:=[.lit (.bool b)]
def zg8 (b : Bool) : List C:=[.f (.lit (.bool b))]
abbrev vBs (l : List Bool) : V:=.one (.f (.sl (l.map rbo)))
attribute [go_sem] vBs
theorem ztV (l : List Bool) : zbo (l.map zg8) = some (l.map rbo):=by
 induction l with
 | nil => rfl
 | cons x l ih => rw [yz,zbo,ih]; rfl
theorem zJI {l : List Bool} {k : Nat} (h : k < l.length) : (l.map zg8)[k]? = some [.f (.lit (.bool (l.getD k false)))]:=by simp [h,zg8]
def mark (w : Int) (out : List Bool) (y : Int) : List Bool:=if y = w then out else out.set y.toNat true
theorem znj (w : Int) (out : List Bool) (y : Int) : (mark w out y).length = out.length:=by unfold mark; split <;> simp
theorem zjd (w : Int) : ∀ (l : List Int) (out : List Bool),(l.foldl (mark w) out).length = out.length
 | [],_ => rfl
 | y :: l,out => by rw [yE,zjd w l,znj]
theorem zwZ {w : Int} {out : List Bool} {y : Int} {i : Nat} (h : out.getD i false = true) : (mark w out y).getD i false = true:=by
 unfold mark;split
 ·exact h
 ·have b : i < out.length:=by
   rcases Nat.lt_or_ge i out.length with a | a
   ·exact a
   ·rw [yl,List.getElem?_eq_none a] at h
    cases h
  by_cases c : y.toNat = i
  ·rw [c,yl,List.getElem?_set_self b]
   rfl
  ·rw [yl,List.getElem?_set_ne c,← yl]
   exact h
def zk0 (w : Int) : Nat → List (List Int) → List Bool → List Bool
 | _,[],out => out
 | i,l :: r,out => zk0 w (i + 1) r (if out.getD i false = true then l.foldl (mark w) out else out)
theorem zi2 (w : Int) : ∀ (r : List (List Int)) (i : Nat) (out : List Bool),(zk0 w i r out).length = out.length
 | [],_,_ => rfl
 | l :: r,i,out => by
   rw [zk0,zi2 w r];split
   ·exact zjd w l out
   ·rfl
def zfZ (w : Int) (succ : List (List Int)) : Nat → List Bool → List Bool
 | 0,out => out
 | r + 1,out => zfZ w succ r (zk0 w 0 succ out)
theorem zh0 (w : Int) (succ : List (List Int)) : ∀ (r : Nat) (out : List Bool),(zfZ w succ r out).length = out.length
 | 0,_ => rfl
 | r + 1,out => by rw [zfZ,zh0 w succ r,zi2]
def zef (succ : List (List Int)) (root w : Int) : List Bool:=if root = w then yo succ.length false else zfZ w succ succ.length ((yo succ.length false).set root.toNat true)
section
variable (succ pred : List (List Int)) (hn : succ.length ≤ 4294967296) (hl : ∀ l ∈ succ,l.length ≤ 4294967296) (hr : ∀ l ∈ succ,∀ y ∈ l,0 ≤ y ∧ y < (succ.length : Int)) (w : Int)
abbrev ztv : Ob:=.cells 0 2 [[.f (.sl (succ.map rl)),.f (.sl (pred.map rl))]]
abbrev zrp (out : List Bool) : zd:=[ztv succ pred,.cells 0 1 (out.map zg8)]
include hn hl hr
theorem zG4 (R : Int) (i : Nat) (b : i < succ.length) : ∀ (d k : Nat) (out : List Bool) (a0 a1 a4 a9 j e h g : V),out.length = succ.length → out.getD i false = true → succ[i].length - k = d → k ≤ succ[i].length →
  exec T zaI ⟨[a0,a1,vI w,.one (.ptr 0 0 0 0),a4,.one (.own 1 0 0 succ.length),vI R,vI i,vI k,a9,j,e,h,g],zrp succ pred out,0,0⟩ =
   some (.exit 4,⟨[vU,vU,vI w,.one (.ptr 0 0 0 0),vU,.one (.own 1 0 0 succ.length),vI R,vI i,vU,vU,vU,vU,vU,vU],zrp succ pred ((succ[i].drop k).foldl (mark w) out),0,0⟩):=by
 intro d
 induction d with
 | zero =>
   intro k out a0 a1 a4 a9 j e h g u p B z;have a : k = succ[i].length:=(by omega);subst a;have m:=zJI (l:=out) (k:=i) (by omega);rw [p] at m;rw [xl zaI rfl,zb8];simp -implicitDefEqProofs only [go_sem,zrp,ztv,ilt b,zt b,rl,m,yg,yb,yf,List.foldl_nil,yk,ym]
 | succ d ih =>
   intro k out a0 a1 a4 a9 j e h g u p B z;have a : k < succ[i].length:=(by omega);have hd : succ[i].drop k = succ[i][k] :: succ[i].drop (k + 1):=ya a;have m:=zJI (l:=out) (k:=i) (by omega);rw [p] at m;obtain ⟨y,s⟩ : ∃ y,y = succ[i][k]:=⟨_,rfl⟩;have t:=hr _ (yh b) _ (yh a);have o:=hl _ (yh b);rw [← s] at t;have x:=zJI (l:=out) (k:=y.toNat) (by omega);have:=ih (k + 1) (mark w out y) vU vU vU vU vU vU vU vU (by rw [znj]; exact u) (zwZ p) (by omega) (by omega);have D : ¬ y < 0:=(by omega);have v:=t.1;have A:=t.2;have n : (out.map zg8).set y.toNat [C.f (.lit (.bool true))] = (out.set y.toNat true).map zg8:=(by rw [yF]; rfl);rw [xl zaI rfl,zb8,hd,yE,← s];have q:=zt (r:=ri) a;rw [← s] at q
   by_cases c : y = w
   ·simp -implicitDefEqProofs only [go_sem,zrp,ztv,mark,c] at this
    simp -implicitDefEqProofs only [go_sem,zrp,ztv,ilt b,ilt a,zt b,q,ri,rl,m,yb,yk,ym,za a o,mark,c,this]
   ·simp -implicitDefEqProofs only [go_sem,zrp,ztv,mark,c] at this
    simp -implicitDefEqProofs only [go_sem,zrp,ztv,ilt b,ilt a,zt b,q,ri,rl,m,yb,yk,ym,za a o,mark,c,v,A,x,n,this]
theorem zyd (R : Int) (i : Nat) (b : i < succ.length) (out : List Bool) (d : out.length = succ.length) (c : out.getD i false = false) a0 a1 a4 a9 a10 a11 a12 a13 :
  exec T zaI ⟨[a0,a1,vI w,.one (.ptr 0 0 0 0),a4,.one (.own 1 0 0 succ.length),vI R,vI i,vI 0,a9,a10,a11,a12,a13],zrp succ pred out,0,0⟩ =
   some (.exit 4,⟨[vU,vU,vI w,.one (.ptr 0 0 0 0),vU,.one (.own 1 0 0 succ.length),vI R,vI i,vU,vU,vU,vU,vU,vU],zrp succ pred out,0,0⟩):=by
 have a:=zJI (l:=out) (k:=i) (by omega);rw [c] at a;rw [xl zaI rfl,zb8];simp -implicitDefEqProofs only [go_sem,zrp,ztv,ilt b,a,yk,ym]
theorem zFL (R : Int) : ∀ (d k : Nat) (out : List Bool) (a0 a1 a4 a8 a9 f a e b : V),out.length = succ.length → succ.length - k = d → k ≤ succ.length →
  exec T zb7 ⟨[a0,a1,vI w,.one (.ptr 0 0 0 0),a4,.one (.own 1 0 0 succ.length),vI R,vI k,a8,a9,f,a,e,b],zrp succ pred out,0,0⟩ =
   some (.exit 2,⟨[vU,vU,vI w,.one (.ptr 0 0 0 0),vU,.one (.own 1 0 0 succ.length),vI R,vU,vU,vU,vU,vU,vU,vU],zrp succ pred (zk0 w k (succ.drop k) out),0,0⟩):=by
 intro d
 induction d with
 | zero =>
   intro k out a0 a1 a4 a8 a9 f a e b i l j;have g : k = succ.length:=(by omega);subst g;rw [xl zb7 rfl,zes];simp -implicitDefEqProofs only [go_sem,zrp,ztv,yg,yb,yf,zk0]
 | succ d ih =>
   intro k out a0 a1 a4 a8 a9 f a e b i l j;have g : k < succ.length:=(by omega);have hd : succ.drop k = succ[k] :: succ.drop (k + 1):=ya g;rw [xl zb7 rfl,zes,hd,zk0];cases c : out.getD k false
   ·have h:=fun a0 a1 a4 a9 f a e b => zyd succ pred hn hl hr w R k g out i c a0 a1 a4 a9 f a e b
    have:=ih (k + 1) out vU vU vU vU vU vU vU vU vU i (by omega) (by omega);simp -implicitDefEqProofs only [go_sem,zrp,ztv] at h this;simp -implicitDefEqProofs only [go_sem,zrp,ztv,ilt g,h,za g hn,this]
   ·have h:=fun a0 a1 a4 a9 f a e b => zG4 succ pred hn hl hr w R k g succ[k].length 0 out a0 a1 a4 a9 f a e b i c (by omega) (by omega)
    simp only [ye,yi] at h;have:=ih (k + 1) (succ[k].foldl (mark w) out) vU vU vU vU vU vU vU vU vU (by rw [zjd]; exact i) (by omega) (by omega);simp -implicitDefEqProofs only [go_sem,zrp,ztv] at h this;simp -implicitDefEqProofs only [go_sem,zrp,ztv,ilt g,h,za g hn,this]
theorem zFl : ∀ (d k : Nat) (out : List Bool) (a0 a1 a4 a7 a8 a9 b a e c : V),out.length = succ.length → succ.length - k = d → k ≤ succ.length →
  exec T zcs ⟨[a0,a1,vI w,.one (.ptr 0 0 0 0),a4,.one (.own 1 0 0 succ.length),vI k,a7,a8,a9,b,a,e,c],zrp succ pred out,0,0⟩ =
   some (.exit 0,⟨[vU,vU,vU,vU,vU,.one (.own 1 0 0 succ.length),vU,vU,vU,vU,vU,vU,vU,vU],zrp succ pred (zfZ w succ d out),0,0⟩):=by
 intro d
 induction d with
 | zero =>
   intro k out a0 a1 a4 a7 a8 a9 b a e c g i j;have f : k = succ.length:=(by omega);subst f;rw [xl zcs rfl,zeM];simp -implicitDefEqProofs only [go_sem,zrp,ztv,yg,yb,zfZ]
 | succ d ih =>
   intro k out a0 a1 a4 a7 a8 a9 b a e c g i j;have f : k < succ.length:=(by omega);rw [xl zcs rfl,zeM,zfZ];have h:=fun a0 a1 a4 a8 a9 b a e c => zFL succ pred hn hl hr w k succ.length 0 out a0 a1 a4 a8 a9 b a e c g (by omega) (by omega);simp only [ye,yi] at h;have:=ih (k + 1) (zk0 w 0 succ out) vU vU vU vU vU vU vU vU vU vU (by rw [zi2]; exact g) (by omega) (by omega);simp -implicitDefEqProofs only [go_sem,zrp,ztv] at h this;simp -implicitDefEqProofs only [go_sem,zrp,ztv,ilt f,h,za f hn,this]
theorem zph (root : Int) (s : 0 ≤ root ∧ root < (succ.length : Int)) : call T 124 [.agg [.f (.sl (succ.map rl)),.f (.sl (pred.map rl))],vI root,vI w] [] = some (vBs (zef succ root w),[]):=by
 rw [ze (fn:=zcL) rfl];have p : yo succ.length [C.f (.lit (.bool false))] = (yo succ.length false).map zg8:=by rw [List.map_replicate]; rfl
 have b : (succ.length : Int) ≤ (LIM : Int):=by unfold LIM; omega
 have q:=fun l => ztV l;obtain ⟨t,r1⟩:=s
 by_cases c : root = w
 ·have o : ((yo succ.length false).map zg8).take succ.length = (yo succ.length false).map zg8:=yu (by simp)
  simp -implicitDefEqProofs only [go_sem,zcL,b,yk,ym,yb,p,c,o,q,zef]
 ·have r:=zJI (l:=yo succ.length false) (k:=root.toNat) (by simp; omega)
  have d : ((yo succ.length false).map zg8).set root.toNat [C.f (.lit (.bool true))] = ((yo succ.length false).set root.toNat true).map zg8:=by rw [yF]; rfl
  have h:=fun a0 a1 a4 a7 a8 a9 m g j i => zFl succ pred hn hl hr w succ.length 0 ((yo succ.length false).set root.toNat true) a0 a1 a4 a7 a8 a9 m g j i (by simp) (by omega) (by omega);simp only [ye] at h;obtain ⟨res,a⟩ : ∃ res,res = zfZ w succ succ.length ((yo succ.length false).set root.toNat true):=⟨_,rfl⟩;have n : res.length = succ.length:=by rw [a,zh0]; simp
  have o : (res.map zg8).take succ.length = res.map zg8:=yu (by simp [n]);have e : zef succ root w = res:=by unfold zef; rw [if_neg c,a]
  rw [e];rw [← a] at h;simp -implicitDefEqProofs only [go_sem,zrp,ztv] at h;simp -implicitDefEqProofs only [go_sem,zcL,b,yk,ym,yb,p,c,t,r1,r,d,h,o,q]
end
end AC
namespace Dm
section
variable (E : Int → Int → Prop) (root : Int)
inductive Way : Int → List Int → Prop
 | root : Way root [root]
 | step {p x : Int} {l : List Int} : Way p l → E p x → Way x (x :: l)
def Dom (d x : Int) : Prop:=∀ l,Way E root x l → d ∈ l
structure Ord (O : Int → Prop) (pos : Int → Nat) : Prop where
 rt : O root
 inj : ∀ a b,O a → O b → pos a = pos b → a = b
 low : ∀ a,O a → pos root ≤ pos a
 par : ∀ x,O x → x ≠ root → ∃ p,O p ∧ E p x ∧ pos p < pos x
 cl : ∀ p x,O p → E p x → O x
inductive Inc (pos : Int → Nat) : Int → Int → Prop
 | refl (a : Int) : Inc pos a a
 | step {a p x : Int} : Inc pos a p → E p x → pos p < pos x → Inc pos a x
inductive Anc (T : Int → Int) : Int → Int → Prop
 | refl (x : Int) : Anc T x x
 | step {y x : Int} : x ≠ root → Anc T y (T x) → Anc T y x
def Com (T : Int → Int) (x y : Int) : Prop:=∀ p,E p x → T p ≠ -2 → Anc root T y p
def St (T : Int → Int) (x : Int) : Prop:=T x ≠ -2 ∧ ∀ y,Anc root T y (T x) ↔ Com E root T x y
structure Inv (O : Int → Prop) (pos : Int → Nat) (T : Int → Int) : Prop where
 out : ∀ x,¬ O x → T x = -2
 rt : T root = root
 nn : ∀ x,O x → x ≠ -2
 par : ∀ x,x ≠ root → T x ≠ -2 → T (T x) ≠ -2 ∧ pos (T x) < pos x
 A : ∀ x d,x ≠ root → T x ≠ -2 → Dom E root d x → d ≠ x → Dom E root d (T x)
 P : ∀ x,x ≠ root → T x ≠ -2 → Inc E pos (T x) x
 B : ∀ x,x ≠ root → T x ≠ -2 → ∀ y,Com E root T x y → pos y ≤ pos (T x)
end
variable {E : Int → Int → Prop} {root : Int} {O : Int → Prop} {pos : Int → Nat}
section
variable (H : Ord E root O pos)
include H
theorem zzy {x : Int} {l : List Int} (h : Way E root x l) : O x ∧ ∀ y ∈ l,O y:=by
 induction h with
 | root => exact ⟨H.rt,fun y a => by rw [yx.1 a]; exact H.rt⟩
 | step h e ih =>
   have:=H.cl _ _ ih.1 e;refine ⟨this,fun y a => ?_⟩;rcases yB.1 a with rfl | a
   ·exact this
   ·exact ih.2 y a
theorem zHn : ∀ (n : Nat) (x : Int),pos x ≤ n → O x → ∃ l,Way E root x l ∧ ∀ y ∈ l,y = x ∨ pos y < pos x:=by
 intro n
 induction n with
 | zero =>
   intro x d b
   by_cases c : x = root
   ·subst c
    exact ⟨_,.root,fun y a => .inl (yx.1 a)⟩
   ·obtain ⟨p,_,_,h⟩:=H.par x b c
    omega
 | succ n ih =>
   intro x d b
   by_cases c : x = root
   ·subst c
    exact ⟨_,.root,fun y a => .inl (yx.1 a)⟩
   ·obtain ⟨p,g,e,h⟩:=H.par x b c
    obtain ⟨l,w,f⟩:=ih p (by omega) g;refine ⟨_,.step w e,fun y a => ?_⟩;rcases yB.1 a with rfl | a
    ·exact .inl rfl
    ·rcases f y a with rfl | i
     ·exact .inr h
     ·exact .inr (by omega)
theorem ztX {d x : Int} (a : O x) (h : Dom E root d x) : d = x ∨ pos d < pos x:=by
 obtain ⟨l,w,b⟩:=zHn H _ x (yA _) a;exact b d (h l w)
theorem zLk {d x : Int} (a : O x) (h : Dom E root d x) : O d:=by
 obtain ⟨l,w,b⟩:=zHn H _ x (yA _) a;exact (zzy H w).2 d (h l w)
end
theorem zyM {d p x : Int} (e : E p x) (h : Dom E root d x) (hd : d ≠ x) : Dom E root d p:=by
 intro l w;rcases yB.1 (h _ (.step w e)) with h | h
 ·exact absurd h hd
 ·exact h
theorem zFf (x : Int) : Dom E root x x:=by
 intro l w
 cases w with
 | root => simp
 | step => simp
theorem zHX {a b : Int} (h : Inc E pos a b) : a = b ∨ pos a < pos b:=by
 induction h with
 | refl => exact .inl rfl
 | step h e l c => rcases c with rfl | c <;> right <;> omega
theorem zDl {a b c : Int} (h : Inc E pos a b) (k : Inc E pos b c) : Inc E pos a c:=by
 induction k with
 | refl => exact h
 | step k e l ih => exact .step ih e l
theorem zDe {T : Int → Int} {a b c : Int} (h : Anc root T a b) (k : Anc root T b c) : Anc root T a c:=by
 induction k with
 | refl => exact h
 | step n k ih => exact .step n ih
theorem zpL {T : Int → Int} {y x : Int} (h : Anc root T y x) (a : y ≠ x) : x ≠ root ∧ Anc root T y (T x):=by
 cases h with
 | refl => exact absurd rfl a
 | step n h => exact ⟨n,h⟩
section
variable (H : Ord E root O pos) {T : Int → Int} (I : Inv E root O pos T)
include H I
theorem zk3 {x : Int} (h : T x ≠ -2) : O x:=by
 by_cases c : O x
 ·exact c
 ·exact absurd (I.out x c) h
theorem zHo : T root ≠ -2:=by rw [I.rt]; exact I.nn _ H.rt
theorem zH1 {y x : Int} (h : Anc root T y x) (b : T x ≠ -2) : T y ≠ -2 ∧ (y = x ∨ pos y < pos x):=by
 induction h with
 | refl => exact ⟨b,.inl rfl⟩
 | step n h ih =>
   obtain ⟨c,e⟩:=I.par _ n b;obtain ⟨d,a⟩:=ih c;refine ⟨d,.inr ?_⟩;rcases a with a | a
   ·rw [a]; exact e
   ·omega
theorem zwi {y x : Int} (h : Anc root T y x) (a : T x ≠ -2) : pos y ≤ pos x:=by
 rcases (zH1 H I h a).2 with rfl | h <;> omega
theorem zF5 {d m x : Int} (h : Anc root T m x) (b : T x ≠ -2) (hd : Dom E root d x) (hm : Anc root T d m) : Dom E root d m:=by
 induction h with
 | refl => exact hd
 | step n h ih =>
   rename_i c;obtain ⟨a,e⟩:=I.par _ n b;refine ih a (I.A _ _ n b hd ?_);rintro rfl;have a1:=zwi H I h a;have a2:=zwi H I hm (zH1 H I h a).1;omega
theorem zEh : ∀ (n : Nat) (x d : Int),pos x ≤ n → T x ≠ -2 → Dom E root d x → Anc root T d x:=by
 intro n
 induction n with
 | zero =>
   intro x d f a hd
   by_cases c : d = x
   ·subst c; exact .refl _
   ·rcases ztX H (zk3 H I a) hd with h | h
    ·exact absurd h c
    ·omega
 | succ n ih =>
   intro x d f a hd
   by_cases c : d = x
   ·subst c; exact .refl _
   ·have b : x ≠ root:=by
     rintro rfl;rcases ztX H H.rt hd with h | h
     ·exact c h
     ·have:=H.low d (zLk H H.rt hd)
      omega
    obtain ⟨e,g⟩:=I.par _ b a;exact .step b (ih _ _ (by omega) e (I.A _ _ b a hd c))
theorem zJq {a b : Int} (h : Inc E pos a b) (c : O a) : O b:=by
 induction h with
 | refl => exact c
 | step h e l ih => exact H.cl _ _ ih e
theorem zH2 {y x : Int} (h : Anc root T y x) (a : T x ≠ -2) : Inc E pos y x:=by
 induction h with
 | refl => exact .refl _
 | step n h ih => exact zDl (ih (I.par _ n a).1) (I.P _ n a)
section
variable {z : Int} (hst : ∀ y,O y → y ≠ root → pos y < pos z → St E root T y)
include hst
theorem zu2 {y : Int} (h : O y) (a : pos y < pos z) : T y ≠ -2:=by
 by_cases c : y = root
 ·rw [c]; exact zHo H I
 ·exact (hst y h c a).1
theorem zJR {a v y : Int} (h : Inc E pos a v) (j : O a) (f : pos v < pos z) (c : Anc root T y v) (k : pos y ≤ pos a) : Anc root T y a:=by
 induction h with
 | refl => exact c
 | step h e l ih =>
   rename_i p v;have d:=zJq H I h j
   have hle : pos a ≤ pos p:=(by rcases zHX h with rfl | h <;> omega);have b : y ≠ v:=(by rintro rfl; omega);obtain ⟨g,i⟩:=zpL c b;have hs:=hst v (H.cl _ _ d e) g f;exact ih (by omega) ((hs.2 y).1 i p e (zu2 H I hst d (by omega)))
theorem key {y : Int} (d : z ≠ root) (c : T z ≠ -2) (f : Com E root T z y) : Anc root T y (T z):=by
 have g:=I.P z d c;have i:=I.B z d c y f;obtain ⟨j,k⟩:=I.par z d c;have a:=zk3 H I j;generalize hw : T z = w at g i k a
 cases g with
 | refl => omega
 | step h e l =>
   have b:=zJq H I h a;exact zJR H I hst h a l (f _ e (zu2 H I hst b l)) i
end
end
structure Upd (E : Int → Int → Prop) (root : Int) (O : Int → Prop) (pos : Int → Nat) (T T' : Int → Int) (z m : Int) : Prop where
 at' : T' z = m
 ne : ∀ x,x ≠ z → T' x = T x
 oz : O z
 hr : z ≠ root
 st : ∀ y,O y → y ≠ root → pos y < pos z → St E root T y
 hm : T m ≠ -2
 best : ∀ y,Anc root T y m ↔ Com E root T z y
 new : m ≠ T z
section
variable (H : Ord E root O pos) {T T' : Int → Int} (I : Inv E root O pos T) {z m : Int} (U : Upd E root O pos T T' z m)
include H I U
theorem zuL : ∃ p,E p z ∧ T p ≠ -2 ∧ pos p < pos z ∧ Anc root T m p:=by
 obtain ⟨p,d,c,b⟩:=H.par z U.oz U.hr;have a:=zu2 H I U.st d b;exact ⟨p,c,a,b,(U.best m).1 (.refl _) p c a⟩
theorem zIp : pos m < pos z ∧ m ≠ -2 ∧ m ≠ z:=by
 obtain ⟨p,c,b,d,a⟩:=zuL H I U;have:=zwi H I a b;refine ⟨by omega,I.nn _ (zk3 H I U.hm),?_⟩;rintro rfl;omega
theorem zyV {x : Int} (h : T x ≠ -2) : T' x ≠ -2:=by
 by_cases c : x = z
 ·rw [c,U.at']; exact (zIp H I U).2.1
 ·rw [U.ne x c]; exact h
theorem shrink {y x : Int} (h : Anc root T' y x) (a : T x ≠ -2) : Anc root T y x:=by
 induction h with
 | refl => exact .refl _
 | step n h ih =>
   rename_i x
   by_cases c : x = z
   ·subst c
    rw [U.at'] at h ih;have b:=ih U.hm;exact .step n (zDe b (key H I U.st n a ((U.best m).1 (.refl _))))
   ·rw [U.ne x c] at h ih
    exact .step n (ih (I.par _ n a).1)
theorem zC5 (a : T z ≠ -2) : pos m < pos (T z):=by
 have h:=key H I U.st U.hr a ((U.best m).1 (.refl _));have b:=(I.par z U.hr a).1;rcases (zH1 H I h b).2 with h | h
 ·exact absurd h U.new
 ·exact h
theorem zHv : Inv E root O pos T':=by
 obtain ⟨m1,m2,t⟩:=zIp H I U;have f:=U.oz;have b : ∀ x y,Com E root T' x y → (Com E root T x y):=fun x y h p e n => shrink H I U (h p e (zyV H I U n)) n;refine ⟨fun x a => ?_,?_,I.nn,fun x hr a => ?_,fun x d hr a hd i => ?_,fun x hr a => ?_,fun x hr a y o => ?_⟩
 ·rw [U.ne x (by rintro rfl; exact a f)]; exact I.out x a
 ·rw [U.ne _ (fun h => U.hr h.symm)]; exact I.rt
 ·by_cases c : x = z
  ·subst c
   rw [U.at',U.ne m t];exact ⟨U.hm,m1⟩
  ·rw [U.ne x c] at a ⊢
   exact ⟨zyV H I U (I.par x hr a).1,(I.par x hr a).2⟩
 ·by_cases c : x = z
  ·subst c
   rw [U.at'];obtain ⟨p,k,g,r,j⟩:=zuL H I U;have l : Anc root T d m:=(U.best d).2 fun q e s => zEh H I _ q d (yA _) s (zyM e hd i);exact zF5 H I j g (zyM k hd i) l
  ·rw [U.ne x c] at a ⊢
   exact I.A x d hr a hd i
 ·by_cases c : x = z
  ·subst c
   rw [U.at'];obtain ⟨p,k,g,r,j⟩:=zuL H I U;exact .step (zH2 H I j g) k r
  ·rw [U.ne x c] at a ⊢
   exact I.P x hr a
 ·by_cases c : x = z
  ·subst c
   rw [U.at'];exact zwi H I ((U.best y).2 (b _ _ o)) U.hm
  ·rw [U.ne x c] at a ⊢
   exact I.B x hr a y (b _ _ o)
end
section
variable (H : Ord E root O pos) {T : Int → Int} (I : Inv E root O pos T) (hs : ∀ x,O x → x ≠ root → St E root T x)
include H I hs
theorem zIe {x : Int} (h : O x) : T x ≠ -2:=by
 by_cases c : x = root
 ·rw [c]; exact zHo H I
 ·exact (hs x h c).1
theorem zIx {x : Int} {l : List Int} (w : Way E root x l) : ∀ y,Anc root T y x → y ∈ l:=by
 induction w with
 | root =>
   intro y h
   by_cases c : y = root
   ·simp [c]
   ·exact absurd rfl (zpL h c).1
 | step w e ih =>
   rename_i p x l;intro y h
   by_cases c : y = x
   ·simp [c]
   ·obtain ⟨b,d⟩:=zpL h c
    have a:=(zzy H w).1;have:=(hs x (H.cl _ _ a e) b).2 y |>.1 d p e (zIe H I hs a);exact List.mem_cons_of_mem _ (ih y this)
theorem zxL {d x : Int} (a : O x) : Anc root T d x ↔ Dom E root d x :=
 ⟨fun h l w => zIx H I hs w d h,fun h => zEh H I _ x d (yA _) (zIe H I hs a) h⟩
end
end Dm

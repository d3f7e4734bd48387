/- A part of the proof of SchedTells. Conditions: none. -/
import Derived.Test.YtmkncmffaaninaaGreatTAQ
import Derived.Test.YtmkncmffaaninaaGreatTAO
import Derived.KernelRfl
set_option linter.all false
open List renaming drop_eq_getElem_cons → ya,drop_length → ye,getElem_mem → yf,any_cons → yg,drop_zero → yi
open Bool renaming or_eq_false_iff → yb,false_eq_true → yc,or_eq_true → yj
open Int renaming natCast_zero → yd,lt_irrefl → yh,reduceSub → yk
namespace AC
open Go Go.A Go.A.Lex
abbrev vI (x : Int) : V:=.one (.f (.lit (.int .i64 x)))
abbrev zGB (x : Int) : V:=.one (.f (.lit (.int .u64 x)))
abbrev vB (x : Bool) : V:=.one (.f (.lit (.bool x)))
abbrev vL (xs : List (List Fz)) : V:=.one (.f (.sl xs))
abbrev vU : V:=.one .un
abbrev vFn (g : Nat) (caps : List C) : V:=.one (.fn g [] caps)
abbrev ei (x : Int) : Fz:=.lit (.int .i64 x)
abbrev eu (x : Int) : Fz:=.lit (.int .u64 x)
def ri (x : Int) : List Fz:=[.lit (.int .i64 x)]
abbrev eI (l : List Int) : Fz:=.sl (l.map ri)
abbrev vIs (l : List Int) : V:=.one (.f (.sl (l.map ri)))
def rl (l : List Int) : List Fz:=[.sl (l.map ri)]
abbrev vLs (l : List (List Int)) : V:=.one (.f (.sl (l.map rl)))
def rs (s : Int × Int) : List Fz:=[.lit (.int .i64 s.1),.lit (.int .i64 s.2)]
abbrev vSs (l : List (Int × Int)) : V:=.one (.f (.sl (l.map rs)))
structure POp where
 kind : Int
 bits : Int
 lanes : Int
 dst : Int
 args : List Int
 imm : Int
structure PPhi where
 bits : Int
 dst : Int
 src : List Int
 args : List Int
structure PBlock where
 phis : List PPhi
 ops : List POp
 kind : Int
 arg : Int
 to : List Int
structure PFunc where
 params : List Int
 ret : Int
 blocks : List PBlock
def ro (o : POp) : List Fz:=[ei o.kind,ei o.bits,ei o.lanes,ei o.dst,eI o.args,eu o.imm]
def rp (p : PPhi) : List Fz:=[ei p.bits,ei p.dst,eI p.src,eI p.args]
def rb (b : PBlock) : List Fz:=[.sl (b.phis.map rp),.sl (b.ops.map ro),ei b.kind,ei b.arg,eI b.to]
abbrev cOp (o : POp) : List C:=[.f (ei o.kind),.f (ei o.bits),.f (ei o.lanes),.f (ei o.dst),.f (eI o.args),.f (eu o.imm)]
abbrev zuh (p : PPhi) : List C:=[.f (ei p.bits),.f (ei p.dst),.f (eI p.src),.f (eI p.args)]
abbrev zg (b : PBlock) : List C:=[.f (.sl (b.phis.map rp)),.f (.sl (b.ops.map ro)),.f (ei b.kind),.f (ei b.arg),.f (eI b.to)]
abbrev z6 (f : PFunc) : List C:=[.f (eI f.params),.f (ei f.ret),.f (.sl (f.blocks.map rb))]
abbrev vOp (o : POp) : V:=.agg (cOp o)
abbrev zG9 (p : PPhi) : V:=.agg (zuh p)
abbrev znI (b : PBlock) : V:=.agg (zg b)
abbrev zd4 (f : PFunc) : V:=.agg (z6 f)
attribute [go_sem] Int.reduceEq Int.reduceNe Int.reduceAdd yk Int.reduceMul Int.reduceNeg Int.reduceGT Int.reduceGE
attribute [go_sem] vI zGB vB vL vU vFn ei eu eI vIs vLs vSs cOp zuh zg z6 vOp zG9 znI zd4
theorem wrap_i64 {n : Int} (h : -9223372036854775808 ≤ n) (b : n < 9223372036854775808) : Go.IntKind.i64.wrap n = n:=by
 unfold Go.IntKind.wrap Go.IntKind.bits Go.IntKind.signed;simp only [Bool.true_and];split
 ·rename_i a
  simp at a;omega
 ·rename_i a
  simp at a;omega
theorem wrap_u64 {n : Int} (h : 0 ≤ n) (a : n < 18446744073709551616) : Go.IntKind.u64.wrap n = n:=by
 unfold Go.IntKind.wrap Go.IntKind.bits Go.IntKind.signed;simp only [Bool.false_and];have : (2 : Int) ^ 64 = 18446744073709551616:=by decide
 rw [this]
 split <;> first | omega | (rename_i h; simp at h)
theorem za {k n : Nat} (h : k < n) (a : n ≤ 4294967296) : Go.IntKind.i64.wrap ((k : Int) + 1) = ((k + 1 : Nat) : Int):=by
 rw [wrap_i64] <;> omega
theorem zj {α : Type} {r : α → List Fz} {l : List α} {k : Nat} (h : k < l.length) : (l.map r)[k]? = some (r l[k]):=by simp [h]
theorem ilt {k n : Nat} (h : k < n) : ((k : Int) < (n : Int)) = True:=by simp [h]
def ziO (b : Int) : Bool:=decide (b = 1) || decide (b = 8) || decide (b = 16) || decide (b = 32) || decide (b = 64)
@[go_sem] theorem zDP (b : Int) : call T 197 [vI b] [] = some (vB (ziO b),[]):=by
  rw [ze (fn:=zgx) rfl]
  by_cases c1 : b = 1
  ·simp -implicitDefEqProofs only [go_sem,zgx,ziO,c1]
  by_cases c2 : b = 8
  ·simp -implicitDefEqProofs only [go_sem,zgx,ziO,c1,c2]
  by_cases c3 : b = 16
  ·simp -implicitDefEqProofs only [go_sem,zgx,ziO,c1,c2,c3]
  by_cases c4 : b = 32
  ·simp -implicitDefEqProofs only [go_sem,zgx,ziO,c1,c2,c3,c4]
  by_cases c5 : b = 64 <;> simp -implicitDefEqProofs only [go_sem,zgx,ziO,c1,c2,c3,c4,c5]
def value (v : Int) : Bool:=decide (1 ≤ v) && decide (v ≤ 1023)
@[go_sem] theorem zBr (v : Int) : call T 253 [vI v] [] = some (vB (value v),[]):=by
  rw [ze (fn:=zkK) rfl]
  by_cases c1 : 1 ≤ v <;> simp -implicitDefEqProofs only [go_sem,zkK,value,c1]
def idxFrom {α : Type} (p : α → Bool) : Nat → List α → Int
 | _,[] => -1
 | k,x :: r => if p x = true then (k : Int) else idxFrom p (k + 1) r
theorem zh0 {α : Type} (p : α → Bool) : ∀ (l : List α) (k : Nat),decide (0 ≤ idxFrom p k l) = l.any p
 | [],_ => by simp [idxFrom]
 | x :: r,k => by
   simp only [idxFrom,yg]
   by_cases h : p x = true
   ·simp [h]
   ·simp [h,zh0 p r (k + 1)]
theorem zm1 (l : List (Int)) (p : Int → Bool) (g : Nat) (fst b : List C) (σ : zd) (f : l.length ≤ 4294967296)
  (i : ∀ x ∈ l,call T g (fst.map V.one ++ vI x :: b.map V.one) σ = some (vB (p x),σ)) : ∀ (d k : Nat) (a2 a3 a6 a7 : V),l.length - k = d → k ≤ l.length →
  exec T zbv ⟨[vIs l,.one (.fn g fst b),a2,a3,vI l.length,vI k,a6,a7],σ,σ.length,σ.length⟩ =
   some (if (l.drop k).any p = true then (.ret,⟨[vU,vU,vI (idxFrom p k (l.drop k)),vU,vU,vU,vU,vU],σ,σ.length,σ.length⟩) else (.exit 0,⟨[vU,vU,vU,vU,vU,vU,vU,vU],σ,σ.length,σ.length⟩)):=by
 intro d
 induction d with
 | zero =>
   intro k a2 a3 a6 a7 h j;have a : k = l.length:=(by omega);subst a;rw [xl zbv rfl,zdJ];simp -implicitDefEqProofs only [go_sem,yh,ye]
 | succ d ih =>
   intro k a2 a3 a6 a7 h j;have a : k < l.length:=(by omega);have hd : l.drop k = l[k] :: l.drop (k + 1):=ya a;have c:=i l[k] (yf a);rw [xl zbv rfl,zdJ,hd];cases e : p l[k]
   ·rw [e] at c
    simp -implicitDefEqProofs only [go_sem,ilt a,zj a,ri,c,e,idxFrom,za a f];exact ih (k + 1) _ _ _ _ (by omega) (by omega)
   ·rw [e] at c
    simp -implicitDefEqProofs only [go_sem,ilt a,zj a,ri,c,e,idxFrom]
theorem zaz (l : List (Int)) (p : Int → Bool) (g : Nat) (fst a : List C) (σ : zd) (i : l.length ≤ 4294967296)
  (c : ∀ x ∈ l,call T g (fst.map V.one ++ vI x :: a.map V.one) σ = some (vB (p x),σ)) :
  call T 119 [vIs l,.one (.fn g fst a)] σ = some (vB (l.any p),σ):=by
 have f : call T 169 [vIs l,.one (.fn g fst a)] σ = some (vI (idxFrom p 0 l),σ):=by
  rw [ze (fn:=zb3) rfl];have h:=fun a2 a3 a6 a7 => zm1 l p g fst a σ i c l.length 0 a2 a3 a6 a7 (by omega) (by omega);simp only [yi,yd] at h
  have d : l.any p = false → idxFrom p 0 l = -1:=fun h => by
   have:=zh0 p l 0;rw [h] at this
   have e : ∀ (l : List (Int)) k,l.any p = false → idxFrom p k l = -1:=by
    intro l
    induction l with
    | nil => exact fun _ _ => rfl
    | cons x r ih =>
      intro k h;simp only [yg,yb] at h;simp only [idxFrom,h.1,yc,if_false];exact ih _ h.2
   exact e l 0 h
  cases b : l.any p
  ·simp -implicitDefEqProofs only [go_sem,b] at h
   simp -implicitDefEqProofs only [go_sem,zb3,h,d b]
  ·simp -implicitDefEqProofs only [go_sem,b] at h
   simp -implicitDefEqProofs only [go_sem,zb3,h]
 rw [ze (fn:=zc2) rfl];simp -implicitDefEqProofs only [go_sem,zc2,f,zh0]
theorem zlL (l : List (PBlock)) (p : PBlock → Bool) (g : Nat) (fst b : List C) (σ : zd) (f : l.length ≤ 4294967296)
  (i : ∀ x ∈ l,call T g (fst.map V.one ++ znI x :: b.map V.one) σ = some (vB (p x),σ)) : ∀ (d k : Nat) (a2 a3 a6 a7 : V),l.length - k = d → k ≤ l.length →
  exec T zaT ⟨[vL (l.map rb),.one (.fn g fst b),a2,a3,vI l.length,vI k,a6,a7],σ,σ.length,σ.length⟩ =
   some (if (l.drop k).any p = true then (.ret,⟨[vU,vU,vI (idxFrom p k (l.drop k)),vU,vU,vU,vU,vU],σ,σ.length,σ.length⟩) else (.exit 0,⟨[vU,vU,vU,vU,vU,vU,vU,vU],σ,σ.length,σ.length⟩)):=by
 intro d
 induction d with
 | zero =>
   intro k a2 a3 a6 a7 h j;have a : k = l.length:=(by omega);subst a;rw [xl zaT rfl,zcY];simp -implicitDefEqProofs only [go_sem,yh,ye]
 | succ d ih =>
   intro k a2 a3 a6 a7 h j;have a : k < l.length:=(by omega);have hd : l.drop k = l[k] :: l.drop (k + 1):=ya a;have c:=i l[k] (yf a);rw [xl zaT rfl,zcY,hd];cases e : p l[k]
   ·rw [e] at c
    simp -implicitDefEqProofs only [go_sem,ilt a,zj a,rb,c,e,idxFrom,za a f];exact ih (k + 1) _ _ _ _ (by omega) (by omega)
   ·rw [e] at c
    simp -implicitDefEqProofs only [go_sem,ilt a,zj a,rb,c,e,idxFrom]
theorem zjA (l : List (PBlock)) (p : PBlock → Bool) (g : Nat) (fst a : List C) (σ : zd) (i : l.length ≤ 4294967296)
  (c : ∀ x ∈ l,call T g (fst.map V.one ++ znI x :: a.map V.one) σ = some (vB (p x),σ)) :
  call T 153 [vL (l.map rb),.one (.fn g fst a)] σ = some (vB (l.any p),σ):=by
 have f : call T 193 [vL (l.map rb),.one (.fn g fst a)] σ = some (vI (idxFrom p 0 l),σ):=by
  rw [ze (fn:=zbe) rfl];have h:=fun a2 a3 a6 a7 => zlL l p g fst a σ i c l.length 0 a2 a3 a6 a7 (by omega) (by omega);simp only [yi,yd] at h
  have d : l.any p = false → idxFrom p 0 l = -1:=fun h => by
   have:=zh0 p l 0;rw [h] at this
   have e : ∀ (l : List (PBlock)) k,l.any p = false → idxFrom p k l = -1:=by
    intro l
    induction l with
    | nil => exact fun _ _ => rfl
    | cons x r ih =>
      intro k h;simp only [yg,yb] at h;simp only [idxFrom,h.1,yc,if_false];exact ih _ h.2
   exact e l 0 h
  cases b : l.any p
  ·simp -implicitDefEqProofs only [go_sem,b] at h
   simp -implicitDefEqProofs only [go_sem,zbe,h,d b]
  ·simp -implicitDefEqProofs only [go_sem,b] at h
   simp -implicitDefEqProofs only [go_sem,zbe,h]
 rw [ze (fn:=zbF) rfl];simp -implicitDefEqProofs only [go_sem,zbF,f,zh0]
theorem zm6 (l : List (PPhi)) (p : PPhi → Bool) (g : Nat) (fst b : List C) (σ : zd) (f : l.length ≤ 4294967296)
  (i : ∀ x ∈ l,call T g (fst.map V.one ++ zG9 x :: b.map V.one) σ = some (vB (p x),σ)) : ∀ (d k : Nat) (a2 a3 a6 a7 : V),l.length - k = d → k ≤ l.length →
  exec T zbo ⟨[vL (l.map rp),.one (.fn g fst b),a2,a3,vI l.length,vI k,a6,a7],σ,σ.length,σ.length⟩ =
   some (if (l.drop k).any p = true then (.ret,⟨[vU,vU,vI (idxFrom p k (l.drop k)),vU,vU,vU,vU,vU],σ,σ.length,σ.length⟩) else (.exit 0,⟨[vU,vU,vU,vU,vU,vU,vU,vU],σ,σ.length,σ.length⟩)):=by
 intro d
 induction d with
 | zero =>
   intro k a2 a3 a6 a7 h j;have a : k = l.length:=(by omega);subst a;rw [xl zbo rfl,zdM];simp -implicitDefEqProofs only [go_sem,yh,ye]
 | succ d ih =>
   intro k a2 a3 a6 a7 h j;have a : k < l.length:=(by omega);have hd : l.drop k = l[k] :: l.drop (k + 1):=ya a;have c:=i l[k] (yf a);rw [xl zbo rfl,zdM,hd];cases e : p l[k]
   ·rw [e] at c
    simp -implicitDefEqProofs only [go_sem,ilt a,zj a,rp,c,e,idxFrom,za a f];exact ih (k + 1) _ _ _ _ (by omega) (by omega)
   ·rw [e] at c
    simp -implicitDefEqProofs only [go_sem,ilt a,zj a,rp,c,e,idxFrom]
theorem zkO (l : List (PPhi)) (p : PPhi → Bool) (g : Nat) (fst a : List C) (σ : zd) (i : l.length ≤ 4294967296)
  (c : ∀ x ∈ l,call T g (fst.map V.one ++ zG9 x :: a.map V.one) σ = some (vB (p x),σ)) :
  call T 199 [vL (l.map rp),.one (.fn g fst a)] σ = some (vB (l.any p),σ):=by
 have f : call T 234 [vL (l.map rp),.one (.fn g fst a)] σ = some (vI (idxFrom p 0 l),σ):=by
  rw [ze (fn:=zb1) rfl];have h:=fun a2 a3 a6 a7 => zm6 l p g fst a σ i c l.length 0 a2 a3 a6 a7 (by omega) (by omega);simp only [yi,yd] at h
  have d : l.any p = false → idxFrom p 0 l = -1:=fun h => by
   have:=zh0 p l 0;rw [h] at this
   have e : ∀ (l : List (PPhi)) k,l.any p = false → idxFrom p k l = -1:=by
    intro l
    induction l with
    | nil => exact fun _ _ => rfl
    | cons x r ih =>
      intro k h;simp only [yg,yb] at h;simp only [idxFrom,h.1,yc,if_false];exact ih _ h.2
   exact e l 0 h
  cases b : l.any p
  ·simp -implicitDefEqProofs only [go_sem,b] at h
   simp -implicitDefEqProofs only [go_sem,zb1,h,d b]
  ·simp -implicitDefEqProofs only [go_sem,b] at h
   simp -implicitDefEqProofs only [go_sem,zb1,h]
 rw [ze (fn:=zc3) rfl];simp -implicitDefEqProofs only [go_sem,zc3,f,zh0]
theorem zoB (l : List (POp)) (p : POp → Bool) (g : Nat) (fst b : List C) (σ : zd) (f : l.length ≤ 4294967296)
  (i : ∀ x ∈ l,call T g (fst.map V.one ++ vOp x :: b.map V.one) σ = some (vB (p x),σ)) : ∀ (d k : Nat) (a2 a3 a6 a7 : V),l.length - k = d → k ≤ l.length →
  exec T zb7 ⟨[vL (l.map ro),.one (.fn g fst b),a2,a3,vI l.length,vI k,a6,a7],σ,σ.length,σ.length⟩ =
   some (if (l.drop k).any p = true then (.ret,⟨[vU,vU,vI (idxFrom p k (l.drop k)),vU,vU,vU,vU,vU],σ,σ.length,σ.length⟩) else (.exit 0,⟨[vU,vU,vU,vU,vU,vU,vU,vU],σ,σ.length,σ.length⟩)):=by
 intro d
 induction d with
 | zero =>
   intro k a2 a3 a6 a7 h j;have a : k = l.length:=(by omega);subst a;rw [xl zb7 rfl,zeb];simp -implicitDefEqProofs only [go_sem,yh,ye]
 | succ d ih =>
   intro k a2 a3 a6 a7 h j;have a : k < l.length:=(by omega);have hd : l.drop k = l[k] :: l.drop (k + 1):=ya a;have c:=i l[k] (yf a);rw [xl zb7 rfl,zeb,hd];cases e : p l[k]
   ·rw [e] at c
    simp -implicitDefEqProofs only [go_sem,ilt a,zj a,ro,c,e,idxFrom,za a f];exact ih (k + 1) _ _ _ _ (by omega) (by omega)
   ·rw [e] at c
    simp -implicitDefEqProofs only [go_sem,ilt a,zj a,ro,c,e,idxFrom]
theorem zlI (l : List (POp)) (p : POp → Bool) (g : Nat) (fst a : List C) (σ : zd) (i : l.length ≤ 4294967296)
  (c : ∀ x ∈ l,call T g (fst.map V.one ++ vOp x :: a.map V.one) σ = some (vB (p x),σ)) :
  call T 201 [vL (l.map ro),.one (.fn g fst a)] σ = some (vB (l.any p),σ):=by
 have f : call T 235 [vL (l.map ro),.one (.fn g fst a)] σ = some (vI (idxFrom p 0 l),σ):=by
  rw [ze (fn:=zcN) rfl];have h:=fun a2 a3 a6 a7 => zoB l p g fst a σ i c l.length 0 a2 a3 a6 a7 (by omega) (by omega);simp only [yi,yd] at h
  have d : l.any p = false → idxFrom p 0 l = -1:=fun h => by
   have:=zh0 p l 0;rw [h] at this
   have e : ∀ (l : List (POp)) k,l.any p = false → idxFrom p k l = -1:=by
    intro l
    induction l with
    | nil => exact fun _ _ => rfl
    | cons x r ih =>
      intro k h;simp only [yg,yb] at h;simp only [idxFrom,h.1,yc,if_false];exact ih _ h.2
   exact e l 0 h
  cases b : l.any p
  ·simp -implicitDefEqProofs only [go_sem,b] at h
   simp -implicitDefEqProofs only [go_sem,zcN,h,d b]
  ·simp -implicitDefEqProofs only [go_sem,b] at h
   simp -implicitDefEqProofs only [go_sem,zcN,h]
 rw [ze (fn:=zdt) rfl];simp -implicitDefEqProofs only [go_sem,zdt,f,zh0]
theorem zmN (l : List (List Int)) (p : List Int → Bool) (g : Nat) (fst b : List C) (σ : zd) (f : l.length ≤ 4294967296)
  (i : ∀ x ∈ l,call T g (fst.map V.one ++ vIs x :: b.map V.one) σ = some (vB (p x),σ)) : ∀ (d k : Nat) (a2 a3 a6 a7 : V),l.length - k = d → k ≤ l.length →
  exec T zbd ⟨[vLs l,.one (.fn g fst b),a2,a3,vI l.length,vI k,a6,a7],σ,σ.length,σ.length⟩ =
   some (if (l.drop k).any p = true then (.ret,⟨[vU,vU,vI (idxFrom p k (l.drop k)),vU,vU,vU,vU,vU],σ,σ.length,σ.length⟩) else (.exit 0,⟨[vU,vU,vU,vU,vU,vU,vU,vU],σ,σ.length,σ.length⟩)):=by
 intro d
 induction d with
 | zero =>
   intro k a2 a3 a6 a7 h j;have a : k = l.length:=(by omega);subst a;rw [xl zbd rfl,zdj];simp -implicitDefEqProofs only [go_sem,yh,ye]
 | succ d ih =>
   intro k a2 a3 a6 a7 h j;have a : k < l.length:=(by omega);have hd : l.drop k = l[k] :: l.drop (k + 1):=ya a;have c:=i l[k] (yf a);rw [xl zbd rfl,zdj,hd];cases e : p l[k]
   ·rw [e] at c
    simp -implicitDefEqProofs only [go_sem,ilt a,zj a,rl,c,e,idxFrom,za a f];exact ih (k + 1) _ _ _ _ (by omega) (by omega)
   ·rw [e] at c
    simp -implicitDefEqProofs only [go_sem,ilt a,zj a,rl,c,e,idxFrom]
theorem zkd (l : List (List Int)) (p : List Int → Bool) (g : Nat) (fst a : List C) (σ : zd) (i : l.length ≤ 4294967296)
  (c : ∀ x ∈ l,call T g (fst.map V.one ++ vIs x :: a.map V.one) σ = some (vB (p x),σ)) :
  call T 178 [vLs l,.one (.fn g fst a)] σ = some (vB (l.any p),σ):=by
 have f : call T 227 [vLs l,.one (.fn g fst a)] σ = some (vI (idxFrom p 0 l),σ):=by
  rw [ze (fn:=zbs) rfl];have h:=fun a2 a3 a6 a7 => zmN l p g fst a σ i c l.length 0 a2 a3 a6 a7 (by omega) (by omega);simp only [yi,yd] at h
  have d : l.any p = false → idxFrom p 0 l = -1:=fun h => by
   have:=zh0 p l 0;rw [h] at this
   have e : ∀ (l : List (List Int)) k,l.any p = false → idxFrom p k l = -1:=by
    intro l
    induction l with
    | nil => exact fun _ _ => rfl
    | cons x r ih =>
      intro k h;simp only [yg,yb] at h;simp only [idxFrom,h.1,yc,if_false];exact ih _ h.2
   exact e l 0 h
  cases b : l.any p
  ·simp -implicitDefEqProofs only [go_sem,b] at h
   simp -implicitDefEqProofs only [go_sem,zbs,h,d b]
  ·simp -implicitDefEqProofs only [go_sem,b] at h
   simp -implicitDefEqProofs only [go_sem,zbs,h]
 rw [ze (fn:=zca) rfl];simp -implicitDefEqProofs only [go_sem,zca,f,zh0]
attribute [go_sem] V.beq C.beq C.beqs Fz.beq Fz.beqR Value.beq
def zBp (v b : Int) : Int:=if ziO b = true then v % 2 ^ b.toNat else 0
theorem zdg {b : Int} (h : ziO b = true) : b = 1 ∨ b = 8 ∨ b = 16 ∨ b = 32 ∨ b = 64:=by
 simp only [ziO,yj,decide_eq_true_eq] at h;omega
theorem zA6 (n : Int) : Go.IntKind.u64.wrap n = n % 18446744073709551616:=by
 unfold Go.IntKind.wrap Go.IntKind.bits Go.IntKind.signed;simp
@[go_sem] theorem ztA (v b : Int) (j : 0 ≤ v) (i : v < 18446744073709551616) : call T 259 [zGB v,vI b] [] = some (zGB (zBp v b),[]):=by
  rw [ze (fn:=zlo) rfl];cases hm : ziO b
  ·simp -implicitDefEqProofs only [go_sem,zlo,zBp,hm]
  ·have e : Go.IntKind.i64.wrap (64 - 1) = 63:=by decide
   have g : Go.IntKind.i64.wrap (64 - 8) = 56:=(by decide);have a : Go.IntKind.i64.wrap (64 - 16) = 48:=(by decide);have d : Go.IntKind.i64.wrap (64 - 32) = 32:=(by decide);have c : Go.IntKind.i64.wrap (64 - 64) = 0:=(by decide);have h : Go.IntKind.u64.bits = 64:=rfl;rcases zdg hm with rfl | rfl | rfl | rfl | rfl
   all_goals
    simp -implicitDefEqProofs only [yk] at e g a d c;simp -implicitDefEqProofs only [go_sem,zlo,zBp,hm,e,g,a,d,c,h,zA6,Option.some.injEq,Prod.mk.injEq,V.one.injEq,C.f.injEq,Fz.lit.injEq,Value.int.injEq];simp
    try (rw [Int.fdiv_eq_ediv_of_nonneg _ (by omega)]; omega)
def zmK (l : Int) : Bool:=decide (l = 2) || decide (l = 4) || decide (l = 8) || decide (l = 16)
def zdQ (b l : Int) : Bool:=ziO b && (decide (l = 1) || (zmK l && (decide (8 ≤ b) && decide (b * l ≤ 128))))
theorem zgk {l : Int} (h : zmK l = true) : l = 2 ∨ l = 4 ∨ l = 8 ∨ l = 16:=by
 simp only [zmK,yj,decide_eq_true_eq] at h;omega
theorem zf9 {b l : Int} (h : zdQ b l = true) : ziO b = true ∧ (l = 1 ∨ l = 2 ∨ l = 4 ∨ l = 8 ∨ l = 16):=by
 simp only [zdQ,Bool.and_eq_true,yj,decide_eq_true_eq] at h;refine ⟨h.1,?_⟩;rcases h.2 with h | h
 ·exact .inl h
 ·have:=zgk h.1
  omega
@[go_sem] theorem zz0 (b l : Int) : call T 251 [vI b,vI l] [] = some (vB (zdQ b l),[]):=by
  rw [ze (fn:=zeX) rfl];cases hm : ziO b
  ·simp -implicitDefEqProofs only [go_sem,zeX,zdQ,hm]
  by_cases c1 : l = 1
  ·simp -implicitDefEqProofs only [go_sem,zeX,zdQ,hm,c1]
  cases a : zmK l
  ·have c:=a
   simp only [zmK,yb,decide_eq_false_iff_not] at c;obtain ⟨⟨⟨c2,c3⟩,c4⟩,c5⟩:=c;simp -implicitDefEqProofs only [go_sem,zeX,zdQ,hm,c1,c2,c3,c4,c5,a]
  ·by_cases c8 : 8 ≤ b
   ·have h:=zdg hm
    rcases zgk a with rfl | rfl | rfl | rfl
    all_goals
     have f : Go.IntKind.i64.wrap (b * 2) = b * 2:=wrap_i64 (by omega) (by omega);have g : Go.IntKind.i64.wrap (b * 4) = b * 4:=wrap_i64 (by omega) (by omega);have e : Go.IntKind.i64.wrap (b * 8) = b * 8:=wrap_i64 (by omega) (by omega);have d : Go.IntKind.i64.wrap (b * 16) = b * 16:=wrap_i64 (by omega) (by omega);simp -implicitDefEqProofs only [go_sem,zeX,zdQ,hm,c1,a,c8,f,g,e,d]
   ·rcases zgk a with rfl | rfl | rfl | rfl
    all_goals simp -implicitDefEqProofs only [go_sem,zeX,zdQ,hm,c1,a,c8]
def zgg (k : Int) : Bool:=decide (k = 17) || decide (k = 19)
@[go_sem] theorem zzb (k : Int) : call T 237 [vI k] [] = some (vB (zgg k),[]):=by
  rw [ze (fn:=zjT) rfl]
  by_cases c1 : k = 17 <;> simp -implicitDefEqProofs only [go_sem,zjT,zgg,c1]
@[go_sem] theorem zDl (l : List (List Fz)) : call T 260 [vL l] [] = some (vL l,[]):=by
  rw [ze (fn:=zn8) rfl];simp -implicitDefEqProofs only [go_sem,zn8]
theorem zlA {n f : Nat} {args : List V} {r : V × zd} (h : zgp T (zU T n) f args [] = some r) : call T f args [] = some r:=zle T n _ _ _ _ h
set_option maxRecDepth 100000 in
theorem zpk (s : Int × Int) (l : Int) (h : l = 1 ∨ l = 2 ∨ l = 4 ∨ l = 8 ∨ l = 16) : call T 261 [vL [rs s],vI l] [] = some (vL (List.replicate l.toNat (rs s)),[]):=by
 rcases h with rfl | rfl | rfl | rfl | rfl
 ·exact zlA (n:=200) (by kernel_rfl)
 ·exact zlA (n:=200) (by kernel_rfl)
 ·exact zlA (n:=200) (by kernel_rfl)
 ·exact zlA (n:=200) (by kernel_rfl)
 ·exact zlA (n:=200) (by kernel_rfl)
end AC

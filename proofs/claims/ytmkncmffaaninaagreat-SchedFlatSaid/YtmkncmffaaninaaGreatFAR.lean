/- A part of the proof of SchedFlat. Conditions: none. -/
import Derived.Test.YtmkncmffaaninaaGreatFAQ
import Derived.KernelRfl
set_option linter.all false
open List renaming drop_eq_getElem_cons → ya,drop_length → ye,getElem_mem → yf,any_cons → yg,drop_zero → yi
open Bool renaming or_eq_false_iff → yb,false_eq_true → yc,or_eq_true → yj
open Int renaming natCast_zero → yd,lt_irrefl → yh
namespace AC
open Go Go.A Go.A.Lex
def idxFrom {α : Type} (p : α → Bool) : Nat → List α → Int
 | _,[] => -1
 | k,x :: r => if p x = true then (k : Int) else idxFrom p (k + 1) r
theorem zg3 {α : Type} (p : α → Bool) : ∀ (l : List α) (k : Nat),decide (0 ≤ idxFrom p k l) = l.any p
 | [],_ => by simp [idxFrom]
 | x :: r,k => by
   simp only [idxFrom,yg]
   by_cases h : p x = true
   ·simp [h]
   ·simp [h,zg3 p r (k + 1)]
theorem zmf (l : List (Int)) (p : Int → Bool) (g : Nat) (fst b : List C) (σ : zd) (i : l.length ≤ 4294967296)
  (f : ∀ x ∈ l,call T g (fst.map V.one ++ vI x :: b.map V.one) σ = some (vB (p x),σ)) : ∀ (d k : Nat) (a2 a3 a6 a7 : V),l.length - k = d → k ≤ l.length →
  exec T zbh ⟨[vIs l,.one (.fn g fst b),a2,a3,vI l.length,vI k,a6,a7],σ,σ.length,σ.length⟩ =
   some (if (l.drop k).any p = true then (.ret,⟨[vU,vU,vI (idxFrom p k (l.drop k)),vU,vU,vU,vU,vU],σ,σ.length,σ.length⟩) else (.exit 0,⟨[vU,vU,vU,vU,vU,vU,vU,vU],σ,σ.length,σ.length⟩)):=by
 intro d
 induction d with
 | zero =>
   intro k a2 a3 a6 a7 j h;have a : k = l.length:=(by omega);subst a;rw [xl zbh rfl,zc6];simp -implicitDefEqProofs only [go_sem,yh,ye]
 | succ d ih =>
   intro k a2 a3 a6 a7 j h;have a : k < l.length:=(by omega);have hd : l.drop k = l[k] :: l.drop (k + 1):=ya a;have c:=f l[k] (yf a);rw [xl zbh rfl,zc6,hd];cases e : p l[k]
   ·rw [e] at c
    simp -implicitDefEqProofs only [go_sem,ilt a,zm a,ri,c,e,idxFrom,za a i];exact ih (k + 1) _ _ _ _ (by omega) (by omega)
   ·rw [e] at c
    simp -implicitDefEqProofs only [go_sem,ilt a,zm a,ri,c,e,idxFrom]
theorem zap (l : List (Int)) (p : Int → Bool) (g : Nat) (fst a : List C) (σ : zd) (i : l.length ≤ 4294967296)
  (c : ∀ x ∈ l,call T g (fst.map V.one ++ vI x :: a.map V.one) σ = some (vB (p x),σ)) :
  call T 119 [vIs l,.one (.fn g fst a)] σ = some (vB (l.any p),σ):=by
 have f : call T 169 [vIs l,.one (.fn g fst a)] σ = some (vI (idxFrom p 0 l),σ):=by
  rw [ze (fn:=zbG) rfl];have h:=fun a2 a3 a6 a7 => zmf l p g fst a σ i c l.length 0 a2 a3 a6 a7 (by omega) (by omega);simp only [yi,yd] at h
  have d : l.any p = false → idxFrom p 0 l = -1:=fun h => by
   have:=zg3 p l 0;rw [h] at this
   have e : ∀ (l : List (Int)) k,l.any p = false → idxFrom p k l = -1:=by
    intro l
    induction l with
    | nil => exact fun _ _ => rfl
    | cons x r ih =>
      intro k h;simp only [yg,yb] at h;simp only [idxFrom,h.1,yc,if_false];exact ih _ h.2
   exact e l 0 h
  cases b : l.any p
  ·simp -implicitDefEqProofs only [go_sem,b] at h
   simp -implicitDefEqProofs only [go_sem,zbG,h,d b]
  ·simp -implicitDefEqProofs only [go_sem,b] at h
   simp -implicitDefEqProofs only [go_sem,zbG,h]
 rw [ze (fn:=zcE) rfl];simp -implicitDefEqProofs only [go_sem,zcE,f,zg3]
theorem zkQ (l : List (PBlock)) (p : PBlock → Bool) (g : Nat) (fst b : List C) (σ : zd) (i : l.length ≤ 4294967296)
  (f : ∀ x ∈ l,call T g (fst.map V.one ++ znB x :: b.map V.one) σ = some (vB (p x),σ)) : ∀ (d k : Nat) (a2 a3 a6 a7 : V),l.length - k = d → k ≤ l.length →
  exec T zaJ ⟨[vL (l.map rb),.one (.fn g fst b),a2,a3,vI l.length,vI k,a6,a7],σ,σ.length,σ.length⟩ =
   some (if (l.drop k).any p = true then (.ret,⟨[vU,vU,vI (idxFrom p k (l.drop k)),vU,vU,vU,vU,vU],σ,σ.length,σ.length⟩) else (.exit 0,⟨[vU,vU,vU,vU,vU,vU,vU,vU],σ,σ.length,σ.length⟩)):=by
 intro d
 induction d with
 | zero =>
   intro k a2 a3 a6 a7 j h;have a : k = l.length:=(by omega);subst a;rw [xl zaJ rfl,zcC];simp -implicitDefEqProofs only [go_sem,yh,ye]
 | succ d ih =>
   intro k a2 a3 a6 a7 j h;have a : k < l.length:=(by omega);have hd : l.drop k = l[k] :: l.drop (k + 1):=ya a;have c:=f l[k] (yf a);rw [xl zaJ rfl,zcC,hd];cases e : p l[k]
   ·rw [e] at c
    simp -implicitDefEqProofs only [go_sem,ilt a,zm a,rb,c,e,idxFrom,za a i];exact ih (k + 1) _ _ _ _ (by omega) (by omega)
   ·rw [e] at c
    simp -implicitDefEqProofs only [go_sem,ilt a,zm a,rb,c,e,idxFrom]
theorem ziB (l : List (PBlock)) (p : PBlock → Bool) (g : Nat) (fst a : List C) (σ : zd) (i : l.length ≤ 4294967296)
  (c : ∀ x ∈ l,call T g (fst.map V.one ++ znB x :: a.map V.one) σ = some (vB (p x),σ)) :
  call T 153 [vL (l.map rb),.one (.fn g fst a)] σ = some (vB (l.any p),σ):=by
 have f : call T 193 [vL (l.map rb),.one (.fn g fst a)] σ = some (vI (idxFrom p 0 l),σ):=by
  rw [ze (fn:=zaX) rfl];have h:=fun a2 a3 a6 a7 => zkQ l p g fst a σ i c l.length 0 a2 a3 a6 a7 (by omega) (by omega);simp only [yi,yd] at h
  have d : l.any p = false → idxFrom p 0 l = -1:=fun h => by
   have:=zg3 p l 0;rw [h] at this
   have e : ∀ (l : List (PBlock)) k,l.any p = false → idxFrom p k l = -1:=by
    intro l
    induction l with
    | nil => exact fun _ _ => rfl
    | cons x r ih =>
      intro k h;simp only [yg,yb] at h;simp only [idxFrom,h.1,yc,if_false];exact ih _ h.2
   exact e l 0 h
  cases b : l.any p
  ·simp -implicitDefEqProofs only [go_sem,b] at h
   simp -implicitDefEqProofs only [go_sem,zaX,h,d b]
  ·simp -implicitDefEqProofs only [go_sem,b] at h
   simp -implicitDefEqProofs only [go_sem,zaX,h]
 rw [ze (fn:=zbq) rfl];simp -implicitDefEqProofs only [go_sem,zbq,f,zg3]
theorem zmv (l : List (PPhi)) (p : PPhi → Bool) (g : Nat) (fst b : List C) (σ : zd) (i : l.length ≤ 4294967296)
  (f : ∀ x ∈ l,call T g (fst.map V.one ++ zFl x :: b.map V.one) σ = some (vB (p x),σ)) : ∀ (d k : Nat) (a2 a3 a6 a7 : V),l.length - k = d → k ≤ l.length →
  exec T zbj ⟨[vL (l.map rp),.one (.fn g fst b),a2,a3,vI l.length,vI k,a6,a7],σ,σ.length,σ.length⟩ =
   some (if (l.drop k).any p = true then (.ret,⟨[vU,vU,vI (idxFrom p k (l.drop k)),vU,vU,vU,vU,vU],σ,σ.length,σ.length⟩) else (.exit 0,⟨[vU,vU,vU,vU,vU,vU,vU,vU],σ,σ.length,σ.length⟩)):=by
 intro d
 induction d with
 | zero =>
   intro k a2 a3 a6 a7 j h;have a : k = l.length:=(by omega);subst a;rw [xl zbj rfl,zc7];simp -implicitDefEqProofs only [go_sem,yh,ye]
 | succ d ih =>
   intro k a2 a3 a6 a7 j h;have a : k < l.length:=(by omega);have hd : l.drop k = l[k] :: l.drop (k + 1):=ya a;have c:=f l[k] (yf a);rw [xl zbj rfl,zc7,hd];cases e : p l[k]
   ·rw [e] at c
    simp -implicitDefEqProofs only [go_sem,ilt a,zm a,rp,c,e,idxFrom,za a i];exact ih (k + 1) _ _ _ _ (by omega) (by omega)
   ·rw [e] at c
    simp -implicitDefEqProofs only [go_sem,ilt a,zm a,rp,c,e,idxFrom]
theorem zju (l : List (PPhi)) (p : PPhi → Bool) (g : Nat) (fst a : List C) (σ : zd) (i : l.length ≤ 4294967296)
  (c : ∀ x ∈ l,call T g (fst.map V.one ++ zFl x :: a.map V.one) σ = some (vB (p x),σ)) :
  call T 199 [vL (l.map rp),.one (.fn g fst a)] σ = some (vB (l.any p),σ):=by
 have f : call T 234 [vL (l.map rp),.one (.fn g fst a)] σ = some (vI (idxFrom p 0 l),σ):=by
  rw [ze (fn:=zbF) rfl];have h:=fun a2 a3 a6 a7 => zmv l p g fst a σ i c l.length 0 a2 a3 a6 a7 (by omega) (by omega);simp only [yi,yd] at h
  have d : l.any p = false → idxFrom p 0 l = -1:=fun h => by
   have:=zg3 p l 0;rw [h] at this
   have e : ∀ (l : List (PPhi)) k,l.any p = false → idxFrom p k l = -1:=by
    intro l
    induction l with
    | nil => exact fun _ _ => rfl
    | cons x r ih =>
      intro k h;simp only [yg,yb] at h;simp only [idxFrom,h.1,yc,if_false];exact ih _ h.2
   exact e l 0 h
  cases b : l.any p
  ·simp -implicitDefEqProofs only [go_sem,b] at h
   simp -implicitDefEqProofs only [go_sem,zbF,h,d b]
  ·simp -implicitDefEqProofs only [go_sem,b] at h
   simp -implicitDefEqProofs only [go_sem,zbF,h]
 rw [ze (fn:=zcD) rfl];simp -implicitDefEqProofs only [go_sem,zcD,f,zg3]
theorem znb (l : List (POp)) (p : POp → Bool) (g : Nat) (fst b : List C) (σ : zd) (i : l.length ≤ 4294967296)
  (f : ∀ x ∈ l,call T g (fst.map V.one ++ vOp x :: b.map V.one) σ = some (vB (p x),σ)) : ∀ (d k : Nat) (a2 a3 a6 a7 : V),l.length - k = d → k ≤ l.length →
  exec T zbH ⟨[vL (l.map ro),.one (.fn g fst b),a2,a3,vI l.length,vI k,a6,a7],σ,σ.length,σ.length⟩ =
   some (if (l.drop k).any p = true then (.ret,⟨[vU,vU,vI (idxFrom p k (l.drop k)),vU,vU,vU,vU,vU],σ,σ.length,σ.length⟩) else (.exit 0,⟨[vU,vU,vU,vU,vU,vU,vU,vU],σ,σ.length,σ.length⟩)):=by
 intro d
 induction d with
 | zero =>
   intro k a2 a3 a6 a7 j h;have a : k = l.length:=(by omega);subst a;rw [xl zbH rfl,zdF];simp -implicitDefEqProofs only [go_sem,yh,ye]
 | succ d ih =>
   intro k a2 a3 a6 a7 j h;have a : k < l.length:=(by omega);have hd : l.drop k = l[k] :: l.drop (k + 1):=ya a;have c:=f l[k] (yf a);rw [xl zbH rfl,zdF,hd];cases e : p l[k]
   ·rw [e] at c
    simp -implicitDefEqProofs only [go_sem,ilt a,zm a,ro,c,e,idxFrom,za a i];exact ih (k + 1) _ _ _ _ (by omega) (by omega)
   ·rw [e] at c
    simp -implicitDefEqProofs only [go_sem,ilt a,zm a,ro,c,e,idxFrom]
theorem zkS (l : List (POp)) (p : POp → Bool) (g : Nat) (fst a : List C) (σ : zd) (i : l.length ≤ 4294967296)
  (c : ∀ x ∈ l,call T g (fst.map V.one ++ vOp x :: a.map V.one) σ = some (vB (p x),σ)) :
  call T 201 [vL (l.map ro),.one (.fn g fst a)] σ = some (vB (l.any p),σ):=by
 have f : call T 235 [vL (l.map ro),.one (.fn g fst a)] σ = some (vI (idxFrom p 0 l),σ):=by
  rw [ze (fn:=zch) rfl];have h:=fun a2 a3 a6 a7 => znb l p g fst a σ i c l.length 0 a2 a3 a6 a7 (by omega) (by omega);simp only [yi,yd] at h
  have d : l.any p = false → idxFrom p 0 l = -1:=fun h => by
   have:=zg3 p l 0;rw [h] at this
   have e : ∀ (l : List (POp)) k,l.any p = false → idxFrom p k l = -1:=by
    intro l
    induction l with
    | nil => exact fun _ _ => rfl
    | cons x r ih =>
      intro k h;simp only [yg,yb] at h;simp only [idxFrom,h.1,yc,if_false];exact ih _ h.2
   exact e l 0 h
  cases b : l.any p
  ·simp -implicitDefEqProofs only [go_sem,b] at h
   simp -implicitDefEqProofs only [go_sem,zch,h,d b]
  ·simp -implicitDefEqProofs only [go_sem,b] at h
   simp -implicitDefEqProofs only [go_sem,zch,h]
 rw [ze (fn:=zcO) rfl];simp -implicitDefEqProofs only [go_sem,zcO,f,zg3]
theorem zlm (l : List (List Int)) (p : List Int → Bool) (g : Nat) (fst b : List C) (σ : zd) (i : l.length ≤ 4294967296)
  (f : ∀ x ∈ l,call T g (fst.map V.one ++ vIs x :: b.map V.one) σ = some (vB (p x),σ)) : ∀ (d k : Nat) (a2 a3 a6 a7 : V),l.length - k = d → k ≤ l.length →
  exec T zaW ⟨[vLs l,.one (.fn g fst b),a2,a3,vI l.length,vI k,a6,a7],σ,σ.length,σ.length⟩ =
   some (if (l.drop k).any p = true then (.ret,⟨[vU,vU,vI (idxFrom p k (l.drop k)),vU,vU,vU,vU,vU],σ,σ.length,σ.length⟩) else (.exit 0,⟨[vU,vU,vU,vU,vU,vU,vU,vU],σ,σ.length,σ.length⟩)):=by
 intro d
 induction d with
 | zero =>
   intro k a2 a3 a6 a7 j h;have a : k = l.length:=(by omega);subst a;rw [xl zaW rfl,zc3];simp -implicitDefEqProofs only [go_sem,yh,ye]
 | succ d ih =>
   intro k a2 a3 a6 a7 j h;have a : k < l.length:=(by omega);have hd : l.drop k = l[k] :: l.drop (k + 1):=ya a;have c:=f l[k] (yf a);rw [xl zaW rfl,zc3,hd];cases e : p l[k]
   ·rw [e] at c
    simp -implicitDefEqProofs only [go_sem,ilt a,zm a,rl,c,e,idxFrom,za a i];exact ih (k + 1) _ _ _ _ (by omega) (by omega)
   ·rw [e] at c
    simp -implicitDefEqProofs only [go_sem,ilt a,zm a,rl,c,e,idxFrom]
theorem zjp (l : List (List Int)) (p : List Int → Bool) (g : Nat) (fst a : List C) (σ : zd) (i : l.length ≤ 4294967296)
  (c : ∀ x ∈ l,call T g (fst.map V.one ++ vIs x :: a.map V.one) σ = some (vB (p x),σ)) :
  call T 178 [vLs l,.one (.fn g fst a)] σ = some (vB (l.any p),σ):=by
 have f : call T 227 [vLs l,.one (.fn g fst a)] σ = some (vI (idxFrom p 0 l),σ):=by
  rw [ze (fn:=zbb) rfl];have h:=fun a2 a3 a6 a7 => zlm l p g fst a σ i c l.length 0 a2 a3 a6 a7 (by omega) (by omega);simp only [yi,yd] at h
  have d : l.any p = false → idxFrom p 0 l = -1:=fun h => by
   have:=zg3 p l 0;rw [h] at this
   have e : ∀ (l : List (List Int)) k,l.any p = false → idxFrom p k l = -1:=by
    intro l
    induction l with
    | nil => exact fun _ _ => rfl
    | cons x r ih =>
      intro k h;simp only [yg,yb] at h;simp only [idxFrom,h.1,yc,if_false];exact ih _ h.2
   exact e l 0 h
  cases b : l.any p
  ·simp -implicitDefEqProofs only [go_sem,b] at h
   simp -implicitDefEqProofs only [go_sem,zbb,h,d b]
  ·simp -implicitDefEqProofs only [go_sem,b] at h
   simp -implicitDefEqProofs only [go_sem,zbb,h]
 rw [ze (fn:=zbP) rfl];simp -implicitDefEqProofs only [go_sem,zbP,f,zg3]
attribute [go_sem] V.beq C.beq C.beqs Fz.beq Fz.beqR Value.beq
def zza (v b : Int) : Int:=if zhP b = true then v % 2 ^ b.toNat else 0
theorem zcU {b : Int} (h : zhP b = true) : b = 1 ∨ b = 8 ∨ b = 16 ∨ b = 32 ∨ b = 64:=by
 simp only [zhP,yj,decide_eq_true_eq] at h;omega
theorem zzG (n : Int) : Go.IntKind.u64.wrap n = n % 18446744073709551616:=by
 unfold Go.IntKind.wrap Go.IntKind.bits Go.IntKind.signed;simp
@[go_sem] theorem zrU (v b : Int) (j : 0 ≤ v) (i : v < 18446744073709551616) : call T 259 [zEm v,vI b] [] = some (zEm (zza v b),[]):=by
  rw [ze (fn:=zkG) rfl];cases hm : zhP b
  ·simp -implicitDefEqProofs only [go_sem,zkG,zza,hm]
  ·have e : Go.IntKind.i64.wrap (64 - 1) = 63:=by decide
   have g : Go.IntKind.i64.wrap (64 - 8) = 56:=(by decide);have c : Go.IntKind.i64.wrap (64 - 16) = 48:=(by decide);have d : Go.IntKind.i64.wrap (64 - 32) = 32:=(by decide);have a : Go.IntKind.i64.wrap (64 - 64) = 0:=(by decide);have h : Go.IntKind.u64.bits = 64:=rfl;rcases zcU hm with rfl | rfl | rfl | rfl | rfl
   all_goals
    simp -implicitDefEqProofs only [Int.reduceSub] at e g c d a;simp -implicitDefEqProofs only [go_sem,zkG,zza,hm,e,g,c,d,a,h,zzG,Option.some.injEq,Prod.mk.injEq,V.one.injEq,C.f.injEq,Fz.lit.injEq,Value.int.injEq];simp
    try (rw [Int.fdiv_eq_ediv_of_nonneg _ (by omega)]; omega)
def zly (l : Int) : Bool:=decide (l = 2) || decide (l = 4) || decide (l = 8) || decide (l = 16)
def zds (b l : Int) : Bool:=zhP b && (decide (l = 1) || (zly l && (decide (8 ≤ b) && decide (b * l ≤ 128))))
theorem zfE {l : Int} (h : zly l = true) : l = 2 ∨ l = 4 ∨ l = 8 ∨ l = 16:=by
 simp only [zly,yj,decide_eq_true_eq] at h;omega
theorem zfn {b l : Int} (h : zds b l = true) : zhP b = true ∧ (l = 1 ∨ l = 2 ∨ l = 4 ∨ l = 8 ∨ l = 16):=by
 simp only [zds,Bool.and_eq_true,yj,decide_eq_true_eq] at h;refine ⟨h.1,?_⟩;rcases h.2 with h | h
 ·exact .inl h
 ·have:=zfE h.1
  omega
@[go_sem] theorem zyq (b l : Int) : call T 251 [vI b,vI l] [] = some (vB (zds b l),[]):=by
  rw [ze (fn:=zee) rfl];cases hm : zhP b
  ·simp -implicitDefEqProofs only [go_sem,zee,zds,hm]
  by_cases c1 : l = 1
  ·simp -implicitDefEqProofs only [go_sem,zee,zds,hm,c1]
  cases a : zly l
  ·have c:=a
   simp only [zly,yb,decide_eq_false_iff_not] at c;obtain ⟨⟨⟨c2,c3⟩,c4⟩,c5⟩:=c;simp -implicitDefEqProofs only [go_sem,zee,zds,hm,c1,c2,c3,c4,c5,a]
  ·by_cases c8 : 8 ≤ b
   ·have g:=zcU hm
    rcases zfE a with rfl | rfl | rfl | rfl
    all_goals
     have e : Go.IntKind.i64.wrap (b * 2) = b * 2:=wrap_i64 (by omega) (by omega);have f : Go.IntKind.i64.wrap (b * 4) = b * 4:=wrap_i64 (by omega) (by omega);have h : Go.IntKind.i64.wrap (b * 8) = b * 8:=wrap_i64 (by omega) (by omega);have d : Go.IntKind.i64.wrap (b * 16) = b * 16:=wrap_i64 (by omega) (by omega);simp -implicitDefEqProofs only [go_sem,zee,zds,hm,c1,a,c8,e,f,h,d]
   ·rcases zfE a with rfl | rfl | rfl | rfl
    all_goals simp -implicitDefEqProofs only [go_sem,zee,zds,hm,c1,a,c8]
def zfz (k : Int) : Bool:=decide (k = 17) || decide (k = 19)
@[go_sem] theorem zxR (k : Int) : call T 237 [vI k] [] = some (vB (zfz k),[]):=by
  rw [ze (fn:=ziG) rfl]
  by_cases c1 : k = 17 <;> simp -implicitDefEqProofs only [go_sem,ziG,zfz,c1]
@[go_sem] theorem zAR (l : List (List Fz)) : call T 260 [vL l] [] = some (vL l,[]):=by
  rw [ze (fn:=zmX) rfl];simp -implicitDefEqProofs only [go_sem,zmX]
theorem zkz {n f : Nat} {args : List V} {r : V × zd} (h : zfI T (zO T n) f args [] = some r) : call T f args [] = some r:=zko T n _ _ _ _ h
set_option maxRecDepth 100000 in
theorem zoh (s : Int × Int) (l : Int) (h : l = 1 ∨ l = 2 ∨ l = 4 ∨ l = 8 ∨ l = 16) : call T 261 [vL [rs s],vI l] [] = some (vL (List.replicate l.toNat (rs s)),[]):=by
 rcases h with rfl | rfl | rfl | rfl | rfl
 ·exact zkz (n:=200) (by kernel_rfl)
 ·exact zkz (n:=200) (by kernel_rfl)
 ·exact zkz (n:=200) (by kernel_rfl)
 ·exact zkz (n:=200) (by kernel_rfl)
 ·exact zkz (n:=200) (by kernel_rfl)
end AC

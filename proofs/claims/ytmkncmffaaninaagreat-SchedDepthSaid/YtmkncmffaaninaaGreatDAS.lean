/- A part of the proof of SchedDepth. Conditions: none. -/
import Derived.Test.YtmkncmffaaninaaGreatDAR
import Derived.KernelRfl
set_option linter.unusedVariables false
set_option linter.unusedSimpArgs false
set_option linter.unusedSectionVars false
open List renaming drop_eq_getElem_cons → ya,drop_length → yd,getElem_mem → ye,any_cons → yg,drop_zero → yi,set_append_right → yk,take_of_length_le → yl,all_cons → ym,all_nil → yn,map_cons → yo,take_append → ys,map_nil → yt,replicate → yu
open Bool renaming or_eq_false_iff → yb,false_eq_true → yf,or_eq_true → yj,and_true → yp,not_eq_true' → yq,and_eq_true → yr
open Int renaming natCast_zero → yc,lt_irrefl → yh
namespace AC
open Go Go.A Go.A.Lex
def idxFrom {α : Type} (p : α → Bool) : Nat → List α → Int
 | _,[] => -1
 | k,x :: r => if p x = true then (k : Int) else idxFrom p (k + 1) r
theorem zg1 {α : Type} (p : α → Bool) : ∀ (l : List α) (k : Nat),decide (0 ≤ idxFrom p k l) = l.any p
 | [],_ => by simp [idxFrom]
 | x :: r,k => by
   simp only [idxFrom,yg]
   by_cases h : p x = true
   ·simp [h]
   ·simp [h,zg1 p r (k + 1)]
theorem zlW (l : List (Int)) (p : Int → Bool) (g : Nat) (fst caps : List C) (σ : zd) (hl : l.length ≤ 4294967296)
  (hf : ∀ x ∈ l,call T g (fst.map V.one ++ vI x :: caps.map V.one) σ = some (vB (p x),σ)) : ∀ (d k : Nat) (a2 a3 a6 a7 : V),l.length - k = d → k ≤ l.length →
  exec T zbe ⟨[vIs l,.one (.fn g fst caps),a2,a3,vI l.length,vI k,a6,a7],σ,σ.length,σ.length⟩ =
   some (if (l.drop k).any p = true then (.ret,⟨[vU,vU,vI (idxFrom p k (l.drop k)),vU,vU,vU,vU,vU],σ,σ.length,σ.length⟩) else (.exit 0,⟨[vU,vU,vU,vU,vU,vU,vU,vU],σ,σ.length,σ.length⟩)):=by
 intro d
 induction d with
 | zero =>
   intro k a2 a3 a6 a7 h1 h2
   have hk : k = l.length:=by omega
   subst hk
   rw [xl zbe rfl,zdg]
   simp -implicitDefEqProofs only [go_sem,yh,yd]
 | succ d ih =>
   intro k a2 a3 a6 a7 h1 h2
   have hk : k < l.length:=by omega
   have hd : l.drop k = l[k] :: l.drop (k + 1):=ya hk
   have hc:=hf l[k] (ye hk)
   rw [xl zbe rfl,zdg,hd]
   cases hp : p l[k]
   ·rw [hp] at hc
    simp -implicitDefEqProofs only [go_sem,ilt hk,zp hk,ri,hc,hp,idxFrom,za hk hl]
    exact ih (k + 1) _ _ _ _ (by omega) (by omega)
   ·rw [hp] at hc
    simp -implicitDefEqProofs only [go_sem,ilt hk,zp hk,ri,hc,hp,idxFrom]
theorem zaQ (l : List (Int)) (p : Int → Bool) (g : Nat) (fst caps : List C) (σ : zd) (hl : l.length ≤ 4294967296)
  (hf : ∀ x ∈ l,call T g (fst.map V.one ++ vI x :: caps.map V.one) σ = some (vB (p x),σ)) :
  call T 119 [vIs l,.one (.fn g fst caps)] σ = some (vB (l.any p),σ):=by
 have hI : call T 169 [vIs l,.one (.fn g fst caps)] σ = some (vI (idxFrom p 0 l),σ):=by
  rw [ze (fn:=zbu) rfl]
  have h:=fun a2 a3 a6 a7 => zlW l p g fst caps σ hl hf l.length 0 a2 a3 a6 a7 (by omega) (by omega)
  simp only [yi,yc] at h
  have hn : l.any p = false → idxFrom p 0 l = -1:=fun h => by
   have:=zg1 p l 0
   rw [h] at this
   have h2 : ∀ (l : List (Int)) k,l.any p = false → idxFrom p k l = -1:=by
    intro l
    induction l with
    | nil => exact fun _ _ => rfl
    | cons x r ih =>
      intro k h
      simp only [yg,yb] at h
      simp only [idxFrom,h.1,yf,if_false]
      exact ih _ h.2
   exact h2 l 0 h
  cases ha : l.any p
  ·simp -implicitDefEqProofs only [go_sem,ha] at h
   simp -implicitDefEqProofs only [go_sem,zbu,h,hn ha]
  ·simp -implicitDefEqProofs only [go_sem,ha] at h
   simp -implicitDefEqProofs only [go_sem,zbu,h]
 rw [ze (fn:=zcx) rfl]
 simp -implicitDefEqProofs only [go_sem,zcx,hI,zg1]
theorem zku (l : List (PBlock)) (p : PBlock → Bool) (g : Nat) (fst caps : List C) (σ : zd) (hl : l.length ≤ 4294967296)
  (hf : ∀ x ∈ l,call T g (fst.map V.one ++ zoA x :: caps.map V.one) σ = some (vB (p x),σ)) : ∀ (d k : Nat) (a2 a3 a6 a7 : V),l.length - k = d → k ≤ l.length →
  exec T zaG ⟨[vL (l.map rb),.one (.fn g fst caps),a2,a3,vI l.length,vI k,a6,a7],σ,σ.length,σ.length⟩ =
   some (if (l.drop k).any p = true then (.ret,⟨[vU,vU,vI (idxFrom p k (l.drop k)),vU,vU,vU,vU,vU],σ,σ.length,σ.length⟩) else (.exit 0,⟨[vU,vU,vU,vU,vU,vU,vU,vU],σ,σ.length,σ.length⟩)):=by
 intro d
 induction d with
 | zero =>
   intro k a2 a3 a6 a7 h1 h2
   have hk : k = l.length:=by omega
   subst hk
   rw [xl zaG rfl,zcy]
   simp -implicitDefEqProofs only [go_sem,yh,yd]
 | succ d ih =>
   intro k a2 a3 a6 a7 h1 h2
   have hk : k < l.length:=by omega
   have hd : l.drop k = l[k] :: l.drop (k + 1):=ya hk
   have hc:=hf l[k] (ye hk)
   rw [xl zaG rfl,zcy,hd]
   cases hp : p l[k]
   ·rw [hp] at hc
    simp -implicitDefEqProofs only [go_sem,ilt hk,zp hk,rb,hc,hp,idxFrom,za hk hl]
    exact ih (k + 1) _ _ _ _ (by omega) (by omega)
   ·rw [hp] at hc
    simp -implicitDefEqProofs only [go_sem,ilt hk,zp hk,rb,hc,hp,idxFrom]
theorem ziz (l : List (PBlock)) (p : PBlock → Bool) (g : Nat) (fst caps : List C) (σ : zd) (hl : l.length ≤ 4294967296)
  (hf : ∀ x ∈ l,call T g (fst.map V.one ++ zoA x :: caps.map V.one) σ = some (vB (p x),σ)) :
  call T 153 [vL (l.map rb),.one (.fn g fst caps)] σ = some (vB (l.any p),σ):=by
 have hI : call T 193 [vL (l.map rb),.one (.fn g fst caps)] σ = some (vI (idxFrom p 0 l),σ):=by
  rw [ze (fn:=zaZ) rfl]
  have h:=fun a2 a3 a6 a7 => zku l p g fst caps σ hl hf l.length 0 a2 a3 a6 a7 (by omega) (by omega)
  simp only [yi,yc] at h
  have hn : l.any p = false → idxFrom p 0 l = -1:=fun h => by
   have:=zg1 p l 0
   rw [h] at this
   have h2 : ∀ (l : List (PBlock)) k,l.any p = false → idxFrom p k l = -1:=by
    intro l
    induction l with
    | nil => exact fun _ _ => rfl
    | cons x r ih =>
      intro k h
      simp only [yg,yb] at h
      simp only [idxFrom,h.1,yf,if_false]
      exact ih _ h.2
   exact h2 l 0 h
  cases ha : l.any p
  ·simp -implicitDefEqProofs only [go_sem,ha] at h
   simp -implicitDefEqProofs only [go_sem,zaZ,h,hn ha]
  ·simp -implicitDefEqProofs only [go_sem,ha] at h
   simp -implicitDefEqProofs only [go_sem,zaZ,h]
 rw [ze (fn:=zbq) rfl]
 simp -implicitDefEqProofs only [go_sem,zbq,hI,zg1]
theorem zlV (l : List (PPhi)) (p : PPhi → Bool) (g : Nat) (fst caps : List C) (σ : zd) (hl : l.length ≤ 4294967296)
  (hf : ∀ x ∈ l,call T g (fst.map V.one ++ zE0 x :: caps.map V.one) σ = some (vB (p x),σ)) : ∀ (d k : Nat) (a2 a3 a6 a7 : V),l.length - k = d → k ≤ l.length →
  exec T zbd ⟨[vL (l.map rp),.one (.fn g fst caps),a2,a3,vI l.length,vI k,a6,a7],σ,σ.length,σ.length⟩ =
   some (if (l.drop k).any p = true then (.ret,⟨[vU,vU,vI (idxFrom p k (l.drop k)),vU,vU,vU,vU,vU],σ,σ.length,σ.length⟩) else (.exit 0,⟨[vU,vU,vU,vU,vU,vU,vU,vU],σ,σ.length,σ.length⟩)):=by
 intro d
 induction d with
 | zero =>
   intro k a2 a3 a6 a7 h1 h2
   have hk : k = l.length:=by omega
   subst hk
   rw [xl zbd rfl,zdd]
   simp -implicitDefEqProofs only [go_sem,yh,yd]
 | succ d ih =>
   intro k a2 a3 a6 a7 h1 h2
   have hk : k < l.length:=by omega
   have hd : l.drop k = l[k] :: l.drop (k + 1):=ya hk
   have hc:=hf l[k] (ye hk)
   rw [xl zbd rfl,zdd,hd]
   cases hp : p l[k]
   ·rw [hp] at hc
    simp -implicitDefEqProofs only [go_sem,ilt hk,zp hk,rp,hc,hp,idxFrom,za hk hl]
    exact ih (k + 1) _ _ _ _ (by omega) (by omega)
   ·rw [hp] at hc
    simp -implicitDefEqProofs only [go_sem,ilt hk,zp hk,rp,hc,hp,idxFrom]
theorem zjd (l : List (PPhi)) (p : PPhi → Bool) (g : Nat) (fst caps : List C) (σ : zd) (hl : l.length ≤ 4294967296)
  (hf : ∀ x ∈ l,call T g (fst.map V.one ++ zE0 x :: caps.map V.one) σ = some (vB (p x),σ)) :
  call T 199 [vL (l.map rp),.one (.fn g fst caps)] σ = some (vB (l.any p),σ):=by
 have hI : call T 234 [vL (l.map rp),.one (.fn g fst caps)] σ = some (vI (idxFrom p 0 l),σ):=by
  rw [ze (fn:=zbz) rfl]
  have h:=fun a2 a3 a6 a7 => zlV l p g fst caps σ hl hf l.length 0 a2 a3 a6 a7 (by omega) (by omega)
  simp only [yi,yc] at h
  have hn : l.any p = false → idxFrom p 0 l = -1:=fun h => by
   have:=zg1 p l 0
   rw [h] at this
   have h2 : ∀ (l : List (PPhi)) k,l.any p = false → idxFrom p k l = -1:=by
    intro l
    induction l with
    | nil => exact fun _ _ => rfl
    | cons x r ih =>
      intro k h
      simp only [yg,yb] at h
      simp only [idxFrom,h.1,yf,if_false]
      exact ih _ h.2
   exact h2 l 0 h
  cases ha : l.any p
  ·simp -implicitDefEqProofs only [go_sem,ha] at h
   simp -implicitDefEqProofs only [go_sem,zbz,h,hn ha]
  ·simp -implicitDefEqProofs only [go_sem,ha] at h
   simp -implicitDefEqProofs only [go_sem,zbz,h]
 rw [ze (fn:=zcA) rfl]
 simp -implicitDefEqProofs only [go_sem,zcA,hI,zg1]
theorem zmH (l : List (POp)) (p : POp → Bool) (g : Nat) (fst caps : List C) (σ : zd) (hl : l.length ≤ 4294967296)
  (hf : ∀ x ∈ l,call T g (fst.map V.one ++ vOp x :: caps.map V.one) σ = some (vB (p x),σ)) : ∀ (d k : Nat) (a2 a3 a6 a7 : V),l.length - k = d → k ≤ l.length →
  exec T zbA ⟨[vL (l.map ro),.one (.fn g fst caps),a2,a3,vI l.length,vI k,a6,a7],σ,σ.length,σ.length⟩ =
   some (if (l.drop k).any p = true then (.ret,⟨[vU,vU,vI (idxFrom p k (l.drop k)),vU,vU,vU,vU,vU],σ,σ.length,σ.length⟩) else (.exit 0,⟨[vU,vU,vU,vU,vU,vU,vU,vU],σ,σ.length,σ.length⟩)):=by
 intro d
 induction d with
 | zero =>
   intro k a2 a3 a6 a7 h1 h2
   have hk : k = l.length:=by omega
   subst hk
   rw [xl zbA rfl,zdz]
   simp -implicitDefEqProofs only [go_sem,yh,yd]
 | succ d ih =>
   intro k a2 a3 a6 a7 h1 h2
   have hk : k < l.length:=by omega
   have hd : l.drop k = l[k] :: l.drop (k + 1):=ya hk
   have hc:=hf l[k] (ye hk)
   rw [xl zbA rfl,zdz,hd]
   cases hp : p l[k]
   ·rw [hp] at hc
    simp -implicitDefEqProofs only [go_sem,ilt hk,zp hk,ro,hc,hp,idxFrom,za hk hl]
    exact ih (k + 1) _ _ _ _ (by omega) (by omega)
   ·rw [hp] at hc
    simp -implicitDefEqProofs only [go_sem,ilt hk,zp hk,ro,hc,hp,idxFrom]
theorem zkt (l : List (POp)) (p : POp → Bool) (g : Nat) (fst caps : List C) (σ : zd) (hl : l.length ≤ 4294967296)
  (hf : ∀ x ∈ l,call T g (fst.map V.one ++ vOp x :: caps.map V.one) σ = some (vB (p x),σ)) :
  call T 201 [vL (l.map ro),.one (.fn g fst caps)] σ = some (vB (l.any p),σ):=by
 have hI : call T 235 [vL (l.map ro),.one (.fn g fst caps)] σ = some (vI (idxFrom p 0 l),σ):=by
  rw [ze (fn:=zcs) rfl]
  have h:=fun a2 a3 a6 a7 => zmH l p g fst caps σ hl hf l.length 0 a2 a3 a6 a7 (by omega) (by omega)
  simp only [yi,yc] at h
  have hn : l.any p = false → idxFrom p 0 l = -1:=fun h => by
   have:=zg1 p l 0
   rw [h] at this
   have h2 : ∀ (l : List (POp)) k,l.any p = false → idxFrom p k l = -1:=by
    intro l
    induction l with
    | nil => exact fun _ _ => rfl
    | cons x r ih =>
      intro k h
      simp only [yg,yb] at h
      simp only [idxFrom,h.1,yf,if_false]
      exact ih _ h.2
   exact h2 l 0 h
  cases ha : l.any p
  ·simp -implicitDefEqProofs only [go_sem,ha] at h
   simp -implicitDefEqProofs only [go_sem,zcs,h,hn ha]
  ·simp -implicitDefEqProofs only [go_sem,ha] at h
   simp -implicitDefEqProofs only [go_sem,zcs,h]
 rw [ze (fn:=zcN) rfl]
 simp -implicitDefEqProofs only [go_sem,zcN,hI,zg1]
theorem zlt (l : List (List Int)) (p : List Int → Bool) (g : Nat) (fst caps : List C) (σ : zd) (hl : l.length ≤ 4294967296)
  (hf : ∀ x ∈ l,call T g (fst.map V.one ++ vIs x :: caps.map V.one) σ = some (vB (p x),σ)) : ∀ (d k : Nat) (a2 a3 a6 a7 : V),l.length - k = d → k ≤ l.length →
  exec T zaW ⟨[vLs l,.one (.fn g fst caps),a2,a3,vI l.length,vI k,a6,a7],σ,σ.length,σ.length⟩ =
   some (if (l.drop k).any p = true then (.ret,⟨[vU,vU,vI (idxFrom p k (l.drop k)),vU,vU,vU,vU,vU],σ,σ.length,σ.length⟩) else (.exit 0,⟨[vU,vU,vU,vU,vU,vU,vU,vU],σ,σ.length,σ.length⟩)):=by
 intro d
 induction d with
 | zero =>
   intro k a2 a3 a6 a7 h1 h2
   have hk : k = l.length:=by omega
   subst hk
   rw [xl zaW rfl,zcL]
   simp -implicitDefEqProofs only [go_sem,yh,yd]
 | succ d ih =>
   intro k a2 a3 a6 a7 h1 h2
   have hk : k < l.length:=by omega
   have hd : l.drop k = l[k] :: l.drop (k + 1):=ya hk
   have hc:=hf l[k] (ye hk)
   rw [xl zaW rfl,zcL,hd]
   cases hp : p l[k]
   ·rw [hp] at hc
    simp -implicitDefEqProofs only [go_sem,ilt hk,zp hk,rl,hc,hp,idxFrom,za hk hl]
    exact ih (k + 1) _ _ _ _ (by omega) (by omega)
   ·rw [hp] at hc
    simp -implicitDefEqProofs only [go_sem,ilt hk,zp hk,rl,hc,hp,idxFrom]
theorem zi8 (l : List (List Int)) (p : List Int → Bool) (g : Nat) (fst caps : List C) (σ : zd) (hl : l.length ≤ 4294967296)
  (hf : ∀ x ∈ l,call T g (fst.map V.one ++ vIs x :: caps.map V.one) σ = some (vB (p x),σ)) :
  call T 178 [vLs l,.one (.fn g fst caps)] σ = some (vB (l.any p),σ):=by
 have hI : call T 227 [vLs l,.one (.fn g fst caps)] σ = some (vI (idxFrom p 0 l),σ):=by
  rw [ze (fn:=zbf) rfl]
  have h:=fun a2 a3 a6 a7 => zlt l p g fst caps σ hl hf l.length 0 a2 a3 a6 a7 (by omega) (by omega)
  simp only [yi,yc] at h
  have hn : l.any p = false → idxFrom p 0 l = -1:=fun h => by
   have:=zg1 p l 0
   rw [h] at this
   have h2 : ∀ (l : List (List Int)) k,l.any p = false → idxFrom p k l = -1:=by
    intro l
    induction l with
    | nil => exact fun _ _ => rfl
    | cons x r ih =>
      intro k h
      simp only [yg,yb] at h
      simp only [idxFrom,h.1,yf,if_false]
      exact ih _ h.2
   exact h2 l 0 h
  cases ha : l.any p
  ·simp -implicitDefEqProofs only [go_sem,ha] at h
   simp -implicitDefEqProofs only [go_sem,zbf,h,hn ha]
  ·simp -implicitDefEqProofs only [go_sem,ha] at h
   simp -implicitDefEqProofs only [go_sem,zbf,h]
 rw [ze (fn:=zbP) rfl]
 simp -implicitDefEqProofs only [go_sem,zbP,hI,zg1]
end AC
namespace AC
open Go Go.A Go.A.Lex
attribute [go_sem] V.beq C.beq C.beqs Fz.beq Fz.beqR Value.beq
def zx9 (v b : Int) : Int:=if zhH b = true then v % 2 ^ b.toNat else 0
theorem zdp {b : Int} (h : zhH b = true) : b = 1 ∨ b = 8 ∨ b = 16 ∨ b = 32 ∨ b = 64:=by
 simp only [zhH,yj,decide_eq_true_eq] at h
 omega
theorem zzw (n : Int) : Go.IntKind.u64.wrap n = n % 18446744073709551616:=by
 unfold Go.IntKind.wrap Go.IntKind.bits Go.IntKind.signed
 simp
@[go_sem] theorem zrJ (v b : Int) (h0 : 0 ≤ v) (h1 : v < 18446744073709551616) : call T 259 [zEs v,vI b] [] = some (zEs (zx9 v b),[]):=by
  rw [ze (fn:=zkl) rfl]
  cases hm : zhH b
  ·simp -implicitDefEqProofs only [go_sem,zkl,zx9,hm]
  ·have w1 : Go.IntKind.i64.wrap (64 - 1) = 63:=by decide
   have w8 : Go.IntKind.i64.wrap (64 - 8) = 56:=by decide
   have w16 : Go.IntKind.i64.wrap (64 - 16) = 48:=by decide
   have w32 : Go.IntKind.i64.wrap (64 - 32) = 32:=by decide
   have w64 : Go.IntKind.i64.wrap (64 - 64) = 0:=by decide
   have hb : Go.IntKind.u64.bits = 64:=rfl
   rcases zdp hm with rfl | rfl | rfl | rfl | rfl
   all_goals
    simp -implicitDefEqProofs only [Int.reduceSub] at w1 w8 w16 w32 w64
    simp -implicitDefEqProofs only [go_sem,zkl,zx9,hm,w1,w8,w16,w32,w64,hb,zzw,Option.some.injEq,Prod.mk.injEq,V.one.injEq,C.f.injEq,Fz.lit.injEq,Value.int.injEq]
    simp
    try (rw [Int.fdiv_eq_ediv_of_nonneg _ (by omega)]; omega)
def zls (l : Int) : Bool:=decide (l = 2) || decide (l = 4) || decide (l = 8) || decide (l = 16)
def zeD (b l : Int) : Bool:=zhH b && (decide (l = 1) || (zls l && (decide (8 ≤ b) && decide (b * l ≤ 128))))
theorem zfr {l : Int} (h : zls l = true) : l = 2 ∨ l = 4 ∨ l = 8 ∨ l = 16:=by
 simp only [zls,yj,decide_eq_true_eq] at h
 omega
theorem zhu {b l : Int} (h : zeD b l = true) : zhH b = true ∧ (l = 1 ∨ l = 2 ∨ l = 4 ∨ l = 8 ∨ l = 16):=by
 simp only [zeD,yr,yj,decide_eq_true_eq] at h
 refine ⟨h.1,?_⟩
 rcases h.2 with h | h
 ·exact .inl h
 ·have:=zfr h.1
  omega
@[go_sem] theorem zyS (b l : Int) : call T 251 [vI b,vI l] [] = some (vB (zeD b l),[]):=by
  rw [ze (fn:=zei) rfl]
  cases hm : zhH b
  ·simp -implicitDefEqProofs only [go_sem,zei,zeD,hm]
  by_cases c1 : l = 1
  ·simp -implicitDefEqProofs only [go_sem,zei,zeD,hm,c1]
  cases hl : zls l
  ·have hl':=hl
   simp only [zls,yb,decide_eq_false_iff_not] at hl'
   obtain ⟨⟨⟨c2,c3⟩,c4⟩,c5⟩:=hl'
   simp -implicitDefEqProofs only [go_sem,zei,zeD,hm,c1,c2,c3,c4,c5,hl]
  ·by_cases c8 : 8 ≤ b
   ·have hm':=zdp hm
    rcases zfr hl with rfl | rfl | rfl | rfl
    all_goals
     have w2 : Go.IntKind.i64.wrap (b * 2) = b * 2:=wrap_i64 (by omega) (by omega)
     have w4 : Go.IntKind.i64.wrap (b * 4) = b * 4:=wrap_i64 (by omega) (by omega)
     have w8 : Go.IntKind.i64.wrap (b * 8) = b * 8:=wrap_i64 (by omega) (by omega)
     have w16 : Go.IntKind.i64.wrap (b * 16) = b * 16:=wrap_i64 (by omega) (by omega)
     simp -implicitDefEqProofs only [go_sem,zei,zeD,hm,c1,hl,c8,w2,w4,w8,w16]
   ·rcases zfr hl with rfl | rfl | rfl | rfl
    all_goals simp -implicitDefEqProofs only [go_sem,zei,zeD,hm,c1,hl,c8]
def zfw (k : Int) : Bool:=decide (k = 17) || decide (k = 19)
@[go_sem] theorem zxB (k : Int) : call T 237 [vI k] [] = some (vB (zfw k),[]):=by
  rw [ze (fn:=ziN) rfl]
  by_cases c1 : k = 17 <;> simp -implicitDefEqProofs only [go_sem,ziN,zfw,c1]
@[go_sem] theorem zAR (l : List (List Fz)) : call T 260 [vL l] [] = some (vL l,[]):=by
  rw [ze (fn:=zmK) rfl]
  simp -implicitDefEqProofs only [go_sem,zmK]
theorem zj7 {n f : Nat} {args : List V} {r : V × zd} (h : zfy T (zN T n) f args [] = some r) : call T f args [] = some r:=zkh T n _ _ _ _ h
set_option maxRecDepth 100000 in
theorem znV (s : Int × Int) (l : Int) (h : l = 1 ∨ l = 2 ∨ l = 4 ∨ l = 8 ∨ l = 16) : call T 261 [vL [rs s],vI l] [] = some (vL (yu l.toNat (rs s)),[]):=by
 rcases h with rfl | rfl | rfl | rfl | rfl
 ·exact zj7 (n:=200) (by kernel_rfl)
 ·exact zj7 (n:=200) (by kernel_rfl)
 ·exact zj7 (n:=200) (by kernel_rfl)
 ·exact zj7 (n:=200) (by kernel_rfl)
 ·exact zj7 (n:=200) (by kernel_rfl)
end AC
namespace AC
open Go Go.A Go.A.Lex
def arith (k : Int) : Bool:=decide (k = 1) || decide (k = 2) || decide (k = 3) || decide (k = 5) || decide (k = 6) || decide (k = 7) || decide (k = 8) || decide (k = 9)
def asks (k : Int) : Bool:=decide (k = 4) || decide (k = 10) || decide (k = 11) || decide (k = 12)
def zDW (o : POp) : Prop:=0 ≤ o.imm ∧ o.imm < 18446744073709551616
def zK (o : POp) : List (Int × Int) × Bool :=
 let own:=(o.bits,o.lanes)
 if o.kind = 0 then ([],decide (zx9 o.imm o.bits = o.imm))
 else if arith o.kind then ([own,own],decide (o.imm = 0))
 else if asks o.kind then ([own,own],decide (o.imm = 0) && decide (o.lanes = 1))
 else if o.kind = 13 then ([(1,1),own,own],decide (o.imm = 0))
 else if o.kind = 14 then ([(min o.imm 128,1)],decide (o.lanes = 1) && (decide (o.imm < o.bits) && zhH o.imm))
 else if o.kind = 15 then ([(min o.imm 128,1)],decide (o.lanes = 1) && (decide (o.bits < o.imm) && (decide (o.imm ≤ 64) && zhH o.imm)))
 else if o.kind = 16 then ([(64,1)],decide (o.imm = 0) && decide (8 ≤ o.bits))
 else if o.kind = 17 then ([(64,1),own],decide (o.imm = 0) && decide (8 ≤ o.bits))
 else if o.kind = 18 ∨ o.kind = 19 then ([(1,1),(64,1),own],decide (o.imm = 0) && (decide (o.lanes = 1) && decide (8 ≤ o.bits)))
 else if o.kind = 20 then ([(1,1),own,own,own],decide (o.imm = 0) && decide (o.lanes = 1))
 else if o.kind = 21 then (yu o.lanes.toNat (o.bits,1),decide (o.imm = 0) && !decide (o.lanes = 1))
 else if o.kind = 22 then ([own],!decide (o.lanes = 1) && decide (o.imm < o.lanes))
 else ([],false)
def zc0 (o : POp) : V:=.tup [vSs (zK o).1,vB (zK o).2]
set_option maxHeartbeats 4000000
section
variable (o : POp) (hs : zeD o.bits o.lanes = true) (ho : zDW o)
include hs ho
theorem zCU (h : arith o.kind = true) : call T 252 [vOp o] [] = some (zc0 o,[]):=by
 rw [ze (fn:=zk) rfl]
 obtain ⟨kind,bits,lanes,dst,args,imm⟩:=o
 have h':=h
 simp only [arith,yj,decide_eq_true_eq] at h h'
 rcases h' with ((((((rfl | rfl) | rfl) | rfl) | rfl) | rfl) | rfl) | rfl
 all_goals simp -implicitDefEqProofs only [go_sem,zk,zc0,zK,rs,arith,h]
theorem zDG (h : asks o.kind = true) : call T 252 [vOp o] [] = some (zc0 o,[]):=by
 rw [ze (fn:=zk) rfl]
 obtain ⟨kind,bits,lanes,dst,args,imm⟩:=o
 have h':=h
 simp only [asks,yj,decide_eq_true_eq] at h h'
 by_cases c : imm = 0
 all_goals
  rcases h' with ((rfl | rfl) | rfl) | rfl
  all_goals simp -implicitDefEqProofs only [go_sem,zk,zc0,zK,rs,arith,asks,h,c]
theorem zDF (h1 : arith o.kind = false) (h2 : asks o.kind = false) : call T 252 [vOp o] [] = some (zc0 o,[]):=by
 rw [ze (fn:=zk) rfl]
 obtain ⟨kind,bits,lanes,dst,args,imm⟩:=o
 obtain ⟨hm,hl⟩:=zhu hs
 simp only [arith,yb,decide_eq_false_iff_not] at h1
 simp only [asks,yb,decide_eq_false_iff_not] at h2
 obtain ⟨⟨⟨⟨⟨⟨⟨n1,n2⟩,n3⟩,n5⟩,n6⟩,n7⟩,n8⟩,n9⟩:=h1
 obtain ⟨⟨⟨n4,n10⟩,n11⟩,n12⟩:=h2
 dsimp only at *
 by_cases c0 : kind = 0
 ·subst c0
  have:=zrJ imm bits ho.1 ho.2
  simp -implicitDefEqProofs only [go_sem] at this
  simp -implicitDefEqProofs only [go_sem,zk,zc0,zK,rs,this]
 by_cases c13 : kind = 13
 ·subst c13
  simp -implicitDefEqProofs only [go_sem,zk,zc0,zK,rs,arith,asks]
 have hmi : Go.IntKind.i64.wrap (min imm 128) = min imm 128:=wrap_i64 (by have:=ho.1; dsimp only at this; omega) (by omega)
 have hbu : Go.IntKind.u64.wrap bits = bits:=by
  have:=zdp hm
  exact wrap_u64 (by omega) (by omega)
 have hlu : Go.IntKind.u64.wrap lanes = lanes:=wrap_u64 (by omega) (by omega)
 by_cases c14 : kind = 14
 ·subst c14
  by_cases d1 : lanes = 1
  ·by_cases d2 : imm < bits
   ·have hii : Go.IntKind.i64.wrap imm = imm:=wrap_i64 (by have:=ho.1; dsimp only at this; omega) (by have:=zdp hm; omega)
    simp -implicitDefEqProofs only [go_sem,zk,zc0,zK,rs,arith,asks,d1,d2,hmi,hbu,hii]
   ·simp -implicitDefEqProofs only [go_sem,zk,zc0,zK,rs,arith,asks,d1,d2,hmi,hbu]
  ·simp -implicitDefEqProofs only [go_sem,zk,zc0,zK,rs,arith,asks,d1,hmi]
 by_cases c15 : kind = 15
 ·subst c15
  by_cases d1 : lanes = 1
  ·by_cases d2 : bits < imm
   ·by_cases d3 : imm ≤ 64
    ·have hii : Go.IntKind.i64.wrap imm = imm:=wrap_i64 (by have:=ho.1; dsimp only at this; omega) (by omega)
     simp -implicitDefEqProofs only [go_sem,zk,zc0,zK,rs,arith,asks,d1,d2,d3,hmi,hbu,hii]
    ·simp -implicitDefEqProofs only [go_sem,zk,zc0,zK,rs,arith,asks,d1,d2,d3,hmi,hbu]
   ·simp -implicitDefEqProofs only [go_sem,zk,zc0,zK,rs,arith,asks,d1,d2,hmi,hbu]
  ·simp -implicitDefEqProofs only [go_sem,zk,zc0,zK,rs,arith,asks,d1,hmi]
 by_cases c16 : kind = 16
 ·subst c16
  by_cases d1 : imm = 0 <;> simp -implicitDefEqProofs only [go_sem,zk,zc0,zK,rs,arith,asks,d1]
 by_cases c17 : kind = 17
 ·subst c17
  by_cases d1 : imm = 0 <;> simp -implicitDefEqProofs only [go_sem,zk,zc0,zK,rs,arith,asks,d1]
 by_cases c18 : kind = 18
 ·subst c18
  by_cases d1 : imm = 0 <;> by_cases d2 : lanes = 1 <;> simp -implicitDefEqProofs only [go_sem,zk,zc0,zK,rs,arith,asks,d1,d2]
 by_cases c19 : kind = 19
 ·subst c19
  by_cases d1 : imm = 0 <;> by_cases d2 : lanes = 1 <;> simp -implicitDefEqProofs only [go_sem,zk,zc0,zK,rs,arith,asks,d1,d2]
 by_cases c20 : kind = 20
 ·subst c20
  by_cases d1 : imm = 0 <;> simp -implicitDefEqProofs only [go_sem,zk,zc0,zK,rs,arith,asks,d1]
 by_cases c21 : kind = 21
 ·subst c21
  have hr:=znV (bits,1) lanes hl
  simp -implicitDefEqProofs only [go_sem,rs] at hr
  by_cases d1 : imm = 0 <;> simp -implicitDefEqProofs only [go_sem,zk,zc0,zK,rs,arith,asks,d1,hr,List.map_replicate]
 by_cases c22 : kind = 22
 ·subst c22
  by_cases d1 : lanes = 1
  ·simp -implicitDefEqProofs only [go_sem,zk,zc0,zK,rs,arith,asks,d1]
  ·simp -implicitDefEqProofs only [go_sem,zk,zc0,zK,rs,arith,asks,d1,hlu]
 simp -implicitDefEqProofs only [go_sem,zk,zc0,zK,rs,arith,asks,n1,n2,n3,n4,n5,n6,n7,n8,n9,n10,n11,n12,c0,c13,c14,c15,c16,c17,c18,c19,c20,c21,c22]
theorem zqB : call T 252 [vOp o] [] = some (zc0 o,[]):=by
 cases h1 : arith o.kind
 ·cases h2 : asks o.kind
  ·exact zDF o hs ho h1 h2
  ·exact zDG o hs ho h2
 ·exact zCU o hs ho h1
end
end AC
namespace AC
open Go Go.A Go.A.Lex
def zgq (o : POp) : Bool:=zeD o.bits o.lanes && ((zK o).2 && ((if zfw o.kind then decide (o.dst = 0) else value o.dst) && (decide ((zK o).1.length = o.args.length) && !o.args.any fun v => !value v)))
@[go_sem] theorem zzG (v : Int) (σ : zd) : call T 254 [vI v] σ = some (vB (!value v),σ):=by
  rw [ze (fn:=zjr) rfl]
  simp -implicitDefEqProofs only [go_sem,zjr]
@[go_sem] theorem zil (o : POp) (ho : zDW o) (hl : o.args.length ≤ 4294967296) : call T 236 [vOp o] [] = some (vB (zgq o),[]):=by
  rw [ze (fn:=zcO) rfl]
  cases hs : zeD o.bits o.lanes
  ·simp -implicitDefEqProofs only [go_sem,zcO,zgq,hs]
  have ht:=zqB o hs ho
  have hc:=fun σ => zaQ o.args (fun v => !value v) 254 [] [] σ hl (fun x _ => by simp -implicitDefEqProofs only [go_sem])
  simp -implicitDefEqProofs only [go_sem,zc0] at ht hc
  cases h1 : (zK o).2
  ·cases h2 : zfw o.kind
   ·simp -implicitDefEqProofs only [go_sem,zcO,zgq,hs,ht,h1,h2]
   ·simp -implicitDefEqProofs only [go_sem,zcO,zgq,hs,ht,h1,h2]
  ·cases h2 : zfw o.kind
   ·cases h3 : value o.dst
    ·simp -implicitDefEqProofs only [go_sem,zcO,zgq,hs,ht,h1,h2,h3]
    ·by_cases h4 : (zK o).1.length = o.args.length
     ·simp -implicitDefEqProofs only [go_sem,zcO,zgq,hs,ht,h1,h2,h3,h4,hc]
     ·have h4' : ¬ ((zK o).1.length : Int) = (o.args.length : Int):=by omega
      simp -implicitDefEqProofs only [go_sem,zcO,zgq,hs,ht,h1,h2,h3,h4,h4']
   ·by_cases h3 : o.dst = 0
    ·by_cases h4 : (zK o).1.length = o.args.length
     ·simp -implicitDefEqProofs only [go_sem,zcO,zgq,hs,ht,h1,h2,eq_true h3,h4,hc]
     ·have h4' : ¬ ((zK o).1.length : Int) = (o.args.length : Int):=by omega
      simp -implicitDefEqProofs only [go_sem,zcO,zgq,hs,ht,h1,h2,eq_true h3,h4,h4']
    ·simp -implicitDefEqProofs only [go_sem,zcO,zgq,hs,ht,h1,h2,h3]
theorem zwe {o : POp} (h : zgq o = true) : zeD o.bits o.lanes = true:=by
 simp only [zgq,yr] at h
 exact h.1
def zaX (o : POp) : List (Int × Int):=if zgq o = true then (zK o).1 else []
@[go_sem] theorem zoo (o : POp) (ho : zDW o) (hl : o.args.length ≤ 4294967296) : call T 238 [vOp o] [] = some (vSs (zaX o),[]):=by
  rw [ze (fn:=zhs) rfl]
  have hm:=zil o ho hl
  cases h : zgq o
  ·simp -implicitDefEqProofs only [go_sem,h] at hm
   simp -implicitDefEqProofs only [go_sem,zhs,hm,zaX,h]
  ·have ht:=zqB o (zwe h) ho
   simp -implicitDefEqProofs only [go_sem,h,zc0] at hm ht
   simp -implicitDefEqProofs only [go_sem,zhs,hm,ht,zaX,h]
def zab (o : POp) : Int × Int :=
 if zgq o = false ∨ zfw o.kind = true then (0,0) else if 10 ≤ o.kind ∧ o.kind ≤ 12 then (1,1) else if o.kind = 22 then (o.bits,1) else (o.bits,o.lanes)
@[go_sem] theorem zpg (o : POp) (ho : zDW o) (hl : o.args.length ≤ 4294967296) : call T 206 [vOp o] [] = some (.tup [vI (zab o).1,vI (zab o).2],[]):=by
  rw [ze (fn:=zcZ) rfl]
  have hm:=zil o ho hl
  cases h : zgq o
  ·simp -implicitDefEqProofs only [go_sem,h] at hm
   simp -implicitDefEqProofs only [go_sem,zcZ,hm,zab,h]
  ·simp -implicitDefEqProofs only [go_sem,h] at hm
   cases h1 : zfw o.kind
   ·by_cases h2 : 10 ≤ o.kind
    ·by_cases h3 : o.kind ≤ 12
     ·simp -implicitDefEqProofs only [go_sem,zcZ,hm,zab,h,h1,h2,h3]
     ·by_cases h4 : o.kind = 22
      ·simp -implicitDefEqProofs only [h4] at h1 hm h2 h3
       simp -implicitDefEqProofs only [go_sem,zcZ,hm,zab,h,h1,h2,h3,h4]
      ·simp -implicitDefEqProofs only [go_sem,zcZ,hm,zab,h,h1,h2,h3,h4,and_false]
    ·have h4 : ¬ o.kind = 22:=by omega
     simp -implicitDefEqProofs only [go_sem,zcZ,hm,zab,h,h1,h2,h4,false_and]
   ·simp -implicitDefEqProofs only [go_sem,zcZ,hm,zab,h,h1]
def impure (k : Int) : Bool:=decide (k = 4) || decide (k = 16) || decide (k = 17) || decide (k = 18) || decide (k = 19) || decide (k = 20)
def pure (k : Int) : Bool:=!impure k && (decide (0 ≤ k) && decide (k ≤ 22))
@[go_sem] theorem zpW (k : Int) : call T 68 [vI k] [] = some (vB (pure k),[]):=by
  rw [ze (fn:=zdf) rfl]
  by_cases c1 : k = 4
  ·simp -implicitDefEqProofs only [go_sem,zdf,pure,impure,c1]
  by_cases c2 : k = 16
  ·simp -implicitDefEqProofs only [go_sem,zdf,pure,impure,c1,c2]
  by_cases c3 : k = 17
  ·simp -implicitDefEqProofs only [go_sem,zdf,pure,impure,c1,c2,c3]
  by_cases c4 : k = 18
  ·simp -implicitDefEqProofs only [go_sem,zdf,pure,impure,c1,c2,c3,c4]
  by_cases c5 : k = 19
  ·simp -implicitDefEqProofs only [go_sem,zdf,pure,impure,c1,c2,c3,c4,c5]
  by_cases c6 : k = 20
  ·simp -implicitDefEqProofs only [go_sem,zdf,pure,impure,c1,c2,c3,c4,c5,c6]
  by_cases c7 : 0 ≤ k <;> simp -implicitDefEqProofs only [go_sem,zdf,pure,impure,c1,c2,c3,c4,c5,c6,c7]
end AC
namespace AC
open Go Go.A Go.A.Lex
def num (n : Int) : Bool:=decide (0 ≤ n) && decide (n ≤ 2147483647)
@[go_sem] theorem zAs (n : Int) (σ : zd) : call T 192 [vI n] σ = some (vB (!num n),σ):=by
  rw [ze (fn:=zgV) rfl]
  by_cases c : n < 0
  ·have c' : ¬ 0 ≤ n:=by omega
   simp -implicitDefEqProofs only [go_sem,zgV,num,c,c']
  ·have c' : 0 ≤ n:=by omega
   by_cases d : 2147483647 < n
   ·have d' : ¬ n ≤ 2147483647:=by omega
    simp -implicitDefEqProofs only [go_sem,zgV,num,c,c',d,d']
   ·have d' : n ≤ 2147483647:=by omega
    simp -implicitDefEqProofs only [go_sem,zgV,num,c,c',d,d']
theorem zpi {α : Type} (p : α → Bool) (l : List α) : (!l.any fun x => !p x) = l.all p:=by
 induction l with
 | nil => rfl
 | cons x r ih => simp only [yg,ym,← ih,Bool.not_or,Bool.not_not]
@[go_sem] theorem zf2 (l : List Int) (hl : l.length ≤ 4294967296) : call T 152 [vIs l] [] = some (vB (l.all num),[]):=by
  rw [ze (fn:=zoJ) rfl]
  have hc:=fun σ => zaQ l (fun v => !num v) 192 [] [] σ hl (fun x _ => by simp -implicitDefEqProofs only [go_sem])
  simp -implicitDefEqProofs only [go_sem] at hc
  simp -implicitDefEqProofs only [go_sem,zoJ,hc,zpi]
theorem zse (a : Int) : call T 152 [vL [[ei a]]] [] = some (vB (num a),[]):=by
 have:=zf2 [a] (by simp)
 simpa only [vIs,yo,yt,ri,ym,yn,yp] using this
theorem zlC (a b : Int) : call T 152 [vL [[ei a],[ei b]]] [] = some (vB (num a && num b),[]):=by
 have:=zf2 [a,b] (by simp)
 simpa only [vIs,yo,yt,ri,ym,yn,yp] using this
theorem zri (a b c d : Int) : call T 152 [vL [[ei a],[ei b],[ei c],[ei d]]] [] = some (vB (num a && (num b && (num c && num d))),[]):=by
 have:=zf2 [a,b,c,d] (by simp)
 simpa only [vIs,yo,yt,ri,ym,yn,yp] using this
def zfI (l : List Int) : Bool:=decide (l.length ≤ 64) && l.all num
theorem zoG (ls : List (List Int)) (hl : ls.length ≤ 4294967296) (hls : ∀ l ∈ ls,l.length ≤ 4294967296) : ∀ (d k : Nat) (a0 a1 a2 a6 a7 : V),ls.length - k = d → k ≤ ls.length →
  exec T zgw ⟨[a0,a1,a2,vLs ls,vI ls.length,vI k,a6,a7],[],0,0⟩ =
   some (if (ls.drop k).all zfI = true then (.exit 0,⟨[vU,vU,vU,vU,vU,vU,vU,vU],[],0,0⟩) else (.ret,⟨[vU,vB false,vU,vU,vU,vU,vU,vU],[],0,0⟩)):=by
 intro d
 induction d with
 | zero =>
   intro k a0 a1 a2 a6 a7 h1 h2
   have hk : k = ls.length:=by omega
   subst hk
   rw [xl zgw rfl,ziv]
   simp -implicitDefEqProofs only [go_sem,yh,yd,yn]
 | succ d ih =>
   intro k a0 a1 a2 a6 a7 h1 h2
   have hk : k < ls.length:=by omega
   have hd : ls.drop k = ls[k] :: ls.drop (k + 1):=ya hk
   have hc:=zf2 ls[k] (hls _ (ye hk))
   rw [xl zgw rfl,ziv,hd]
   by_cases c : ls[k].length ≤ 64
   ·have c' : ¬ (64 : Int) < (ls[k].length : Int):=by omega
    cases ha : ls[k].all num
    ·simp -implicitDefEqProofs only [go_sem,ha] at hc
     simp -implicitDefEqProofs only [go_sem,ilt hk,zp hk,rl,c',hc,zfI,c,ha]
    ·simp -implicitDefEqProofs only [go_sem,ha] at hc
     simp -implicitDefEqProofs only [go_sem,ilt hk,zp hk,rl,c',hc,zfI,c,ha,za hk hl]
     exact ih (k + 1) _ _ _ _ _ (by omega) (by omega)
   ·have c' : (64 : Int) < (ls[k].length : Int):=by omega
    simp -implicitDefEqProofs only [go_sem,ilt hk,zp hk,rl,c',zfI,c]
theorem zjz (ls : List (List Int)) (hl : ls.length ≤ 4294967296) (hls : ∀ l ∈ ls,l.length ≤ 4294967296) : call T 194 [vLs ls] [] = some (vB (ls.all zfI),[]):=by
 rw [ze (fn:=zjv) rfl]
 have h:=fun a0 a1 a2 a6 a7 => zoG ls hl hls ls.length 0 a0 a1 a2 a6 a7 (by omega) (by omega)
 simp only [yi,yc] at h
 cases ha : ls.all zfI <;> simp -implicitDefEqProofs only [go_sem,ha] at h <;> simp -implicitDefEqProofs only [go_sem,zjv,h]
end AC
namespace AC
open Go Go.A Go.A.Lex
theorem zeU {α : Type} {p : α → Bool} {l : List α} (h : l.find? (fun x => !p x) = none) : l.all p = true:=by
 simp only [List.find?_eq_none,yq,Bool.not_eq_false] at h
 simpa [List.all_eq_true] using h
theorem zeQ {α : Type} {p : α → Bool} {l : List α} {x : α} (h : l.find? (fun x => !p x) = some x) : l.all p = false:=by
 have h1:=List.find?_some h
 have h2:=List.mem_of_find?_eq_some h
 simp only [yq] at h1
 exact List.all_eq_false.2 ⟨x,h2,by simp [h1]⟩
section ends
variable {α : Type} (σ r : List α) (o p q' : α)
theorem zBk : (σ ++ o :: r)[σ.length]? = some o:=by simp
theorem zAN : (σ ++ o :: p :: r)[σ.length + 1]? = some p:=by simp
theorem zAB : (σ ++ o :: p :: q' :: r)[σ.length + 2]? = some q':=by simp
theorem zr3 (x : α) : (σ ++ o :: r).set σ.length x = σ ++ x :: r:=by simp [yk]
theorem zBW (x : α) : (σ ++ o :: p :: r).set (σ.length + 1) x = σ ++ o :: x :: r:=by simp [yk]
theorem zBx (x : α) : (σ ++ o :: p :: q' :: r).set (σ.length + 2) x = σ ++ o :: p :: x :: r:=by simp [yk]
theorem zAl : (σ ++ r).take σ.length = σ:=by simp
theorem zyk : (σ ++ o :: r).take (σ.length + 1) = σ ++ [o]:=by simp [ys,yl]
theorem zzX : (σ ++ o :: p :: r).take (σ.length + 2) = σ ++ [o,p]:=by simp [ys,yl]
end ends
theorem zC3 (n : Nat) : (n + 1 ≤ n) = False:=by simp
theorem zDs (n : Nat) : (n + 2 ≤ n) = False:=by simp
theorem zDN (n : Nat) : (n + 3 ≤ n) = False:=by simp
theorem zDa (n : Nat) : (n + 4 ≤ n) = False:=by simp
theorem zDp (n : Nat) : (n + 5 ≤ n) = False:=by simp
theorem znc (n : Nat) : ∀ (a b : List Ob),Obs.lt n (a ++ b) = (Obs.lt n a && Obs.lt n b)
 | [],b => by simp [Obs.lt]
 | x :: a,b => by simp [Obs.lt,znc n a b,Bool.and_assoc]
attribute [go_sem] zBk zAN zAB zr3 zBW zBx zAl zyk zzX zC3 zDs zDN zDa zDp znc List.take_left'
end AC

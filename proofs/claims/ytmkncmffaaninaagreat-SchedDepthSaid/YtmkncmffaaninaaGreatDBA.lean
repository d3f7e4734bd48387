/- A part of the proof of SchedDepth. Conditions: none. -/
import Derived.Test.YtmkncmffaaninaaGreatDAT
import Derived.Test.YtmkncmffaaninaaGreatDAY
import Derived.Test.YtmkncmffaaninaaGreatDAZ
set_option linter.unusedVariables false
set_option linter.unusedSimpArgs false
set_option linter.unusedSectionVars false
open Int renaming natCast_nonneg → ya,toNat_natCast → yb,natCast_zero → yg,lt_irrefl → yh
open List renaming length_map → yc,getElem?_cons_succ → yd,getElem?_cons_zero → ye,drop_eq_getElem_cons → yf,drop_length → yi,getElem?_map → yk,set_cons_succ → ym,length_append → yn,drop_zero → yo,getElem?_set_self → yp,length_cons → yq,length_nil → yr,all_cons → ys,getElem_mem → yt,all_nil → yu,map_set → yv,find?_cons → yw,length_set → yx,find?_nil → yy,replicate → yz,set_set → yC,map_nil → yD,map → yE
open Bool renaming false_eq_true → yj,and_false → yl,and_true → yA
open Nat renaming zero_add → yB
namespace AC
open Go Go.A Go.A.Lex
theorem zzH {o : POp} (h : zgq o = true) : 0 ≤ o.kind ∧ o.kind ≤ 22:=by
 unfold zgq at h
 simp only [Bool.and_eq_true] at h
 cases hv : zgr o.kind
 ·rw [zou hv] at h
  exact absurd h.2.1 (by simp)
 ·simpa [zgr] using hv
section
variable (f : PFunc) (hf : okF f) (level : Int)
abbrev zhU (r : zd) : zd:=.cells 0 3 [zcJ f] :: r
include hf
theorem zxt : ∀ (d k : Nat) (a0 a3 a5 a6 a7 a8 a9 a10 a11 a12 a13 a14 a15 a16 a17 a18 : V),f.params.length - k = d → k ≤ f.params.length →
  exec T zbD ⟨[a0,vI level,.one (.ptr 0 0 0 0),a3,vI k,a5,a6,a7,a8,a9,a10,a11,a12,a13,a14,a15,a16,a17,a18],zhU f [],0,0⟩ =
   some (if (f.params.drop k).all zhH = true then (.exit 0,⟨[vU,vI level,.one (.ptr 0 0 0 0),vU,vU,vU,vU,vU,vU,vU,vU,vU,vU,vU,vU,vU,vU,vU,vU],zhU f [],0,0⟩) else (.ret,⟨[vU,vU,vU,vB false,vU,vU,vU,vU,vU,vU,vU,vU,vU,vU,vU,vU,vU,vU,vU],zhU f [],0,0⟩)):=by
 intro d
 induction d with
 | zero =>
   intro k a0 a3 a5 a6 a7 a8 a9 a10 a11 a12 a13 a14 a15 a16 a17 a18 h1 h2
   have hk : k = f.params.length:=by omega
   subst hk
   rw [xl zbD rfl,zdA]
   simp -implicitDefEqProofs only [go_sem,zhU,yh,yc,yi,yu]
 | succ d ih =>
   intro k a0 a3 a5 a6 a7 a8 a9 a10 a11 a12 a13 a14 a15 a16 a17 a18 h1 h2
   have hk : k < f.params.length:=by omega
   have hd : f.params.drop k = f.params[k] :: f.params.drop (k + 1):=yf hk
   have hM:=zfJ f.params[k]
   have:=ih (k + 1) vU vU vU vU vU vU vU vU vU vU vU vU vU vU vU vU (by omega) (by omega)
   rw [xl zbD rfl,zdA,hd,ys]
   simp -implicitDefEqProofs only [go_sem,zhU] at this
   cases c : zhH f.params[k]
   ·simp -implicitDefEqProofs only [go_sem,c] at hM
    simp -implicitDefEqProofs only [go_sem,zhU,ilt hk,zp hk,ri,yc,hM,c]
   ·simp -implicitDefEqProofs only [go_sem,c] at hM
    simp -implicitDefEqProofs only [go_sem,zhU,ilt hk,zp hk,ri,yc,hM,c,za hk hf.params,this]
theorem zwa (b : PBlock) (i : Nat) (hi : i < f.blocks.length) (hb : b = f.blocks[i]) (hbl : b.phis.length ≤ 4294967296) : ∀ (d k : Nat) (a0 a3 a4 a7 a8 a9 a10 a11 a12 a13 a14 a15 a16 a17 a18 : V),b.phis.length - k = d → k ≤ b.phis.length →
  exec T zbx ⟨[a0,vI level,.one (.ptr 0 0 0 0),a3,a4,vI i,vI k,a7,a8,a9,a10,a11,a12,a13,a14,a15,a16,a17,a18],zhU f [],0,0⟩ =
   some (if (b.phis.drop k).all (fun p => zhH p.bits) = true then (.exit 4,⟨[vU,vI level,.one (.ptr 0 0 0 0),vU,vU,vI i,vU,vU,vU,vU,vU,vU,vU,vU,vU,vU,vU,vU,vU],zhU f [],0,0⟩) else (.ret,⟨[vU,vU,vU,vB false,vU,vU,vU,vU,vU,vU,vU,vU,vU,vU,vU,vU,vU,vU,vU],zhU f [],0,0⟩)):=by
 intro d
 have gi:=zp (r:=rb) hi
 rw [← hb] at gi
 induction d with
 | zero =>
   intro k a0 a3 a4 a7 a8 a9 a10 a11 a12 a13 a14 a15 a16 a17 a18 h1 h2
   have hk : k = b.phis.length:=by omega
   subst hk
   rw [xl zbx rfl,zdJ]
   simp -implicitDefEqProofs only [go_sem,zhU,gi,rb,ilt hi,yh,yc,yi,yu,ya,yb]
 | succ d ih =>
   intro k a0 a3 a4 a7 a8 a9 a10 a11 a12 a13 a14 a15 a16 a17 a18 h1 h2
   have hk : k < b.phis.length:=by omega
   have hd : b.phis.drop k = b.phis[k] :: b.phis.drop (k + 1):=yf hk
   have hM:=zfJ b.phis[k].bits
   have:=ih (k + 1) vU vU vU vU vU vU vU vU vU vU vU vU vU vU vU (by omega) (by omega)
   rw [xl zbx rfl,zdJ,hd,ys]
   simp -implicitDefEqProofs only [go_sem,zhU] at this
   cases c : zhH b.phis[k].bits
   ·simp -implicitDefEqProofs only [go_sem,c] at hM
    simp -implicitDefEqProofs only [go_sem,zhU,gi,rb,ilt hi,ilt hk,zp hk,rp,yc,hM,c,ya,yb]
   ·simp -implicitDefEqProofs only [go_sem,c] at hM
    simp -implicitDefEqProofs only [go_sem,zhU,gi,rb,ilt hi,ilt hk,zp hk,rp,yc,hM,c,ya,yb,za hk hbl,this]
set_option maxHeartbeats 4000000 in
theorem zwY (hlv : level = 0 ∨ level = 1 ∨ level = 2) (b : PBlock) (hbo : okB b) (i : Nat) (hi : i < f.blocks.length) (hb : b = f.blocks[i]) : ∀ (d k : Nat) (a0 a3 a4 a6 a8 a9 a10 a11 a12 a13 a14 a15 a16 a17 a18 : V),b.ops.length - k = d → k ≤ b.ops.length →
  exec T zbs ⟨[a0,vI level,.one (.ptr 0 0 0 0),a3,a4,vI i,a6,vI k,a8,a9,a10,a11,a12,a13,a14,a15,a16,a17,a18],zhU f [],0,0⟩ =
   some (match (b.ops.drop k).find? (fun o => !ofS level o) with | none => (.exit 6,⟨[vU,vI level,.one (.ptr 0 0 0 0),vU,vU,vI i,vU,vU,vU,vU,vU,vU,vU,vU,vU,vU,vU,vU,vU],zhU f [],0,0⟩) | some o => (.ret,⟨[vU,vU,vU,vB false,vU,vU,vU,vU,vU,vU,vU,vU,vU,vU,vU,vU,vU,vU,vU],zhU f [.cells 0 6 [cOp o]],0,0⟩)):=by
 intro d
 have gi:=zp (r:=rb) hi
 rw [← hb] at gi
 induction d with
 | zero =>
   intro k a0 a3 a4 a6 a8 a9 a10 a11 a12 a13 a14 a15 a16 a17 a18 h1 h2
   have hk : k = b.ops.length:=by omega
   subst hk
   rw [xl zbs rfl,zdr]
   simp -implicitDefEqProofs only [go_sem,zhU,gi,rb,ilt hi,yh,yc,yi,yy,ya,yb]
 | succ d ih =>
   intro k a0 a3 a4 a6 a8 a9 a10 a11 a12 a13 a14 a15 a16 a17 a18 h1 h2
   have hk : k < b.ops.length:=by omega
   have hd : b.ops.drop k = b.ops[k] :: b.ops.drop (k + 1):=yf hk
   have hM:=zlv b.ops[k] (hbo.op _ (yt hk))
   have:=ih (k + 1) vU vU vU vU vU vU vU vU vU vU vU vU vU vU vU (by omega) (by omega)
   rw [xl zbs rfl,zdr,hd,yw]
   simp -implicitDefEqProofs only [go_sem,zhU] at this
   obtain ⟨o,ho⟩ : ∃ o,o = b.ops[k]:=⟨_,rfl⟩
   have gk:=zp (r:=ro) hk
   rw [← ho] at gk hM ⊢
   cases c : zgq o
   ·have e : ofS level o = false:=by unfold ofS; rw [c,yl,yl]
    simp -implicitDefEqProofs only [go_sem,c] at hM
    rcases hlv with rfl | rfl | rfl <;> simp -implicitDefEqProofs only [go_sem,zhU,gi,rb,ilt hi,ilt hk,gk,ro,yc,hM,e,ya,yb]
   ·simp -implicitDefEqProofs only [go_sem,c] at hM
    have hv:=(zzH c)
    by_cases k20 : 20 < o.kind
    ·by_cases k17 : 17 < o.kind
     ·have k22 : ¬ o.kind > 22:=by omega
      have g20 : o.kind > 20:=k20
      have g17 : o.kind > 17:=k17
      by_cases l1 : 1 < o.lanes
      ·have gl : o.lanes > 1:=l1
       rcases hlv with rfl | rfl | rfl <;> simp -implicitDefEqProofs only [go_sem,zhU,gi,rb,ilt hi,ilt hk,gk,ro,yc,hM,c,ofS,k22,eq_true g20,eq_true g17,eq_true k20,eq_true k17,eq_true l1,eq_true gl,ya,yb,za hk hbo.ops,this]
      ·have gl : ¬ o.lanes > 1:=l1
       rcases hlv with rfl | rfl | rfl <;> simp -implicitDefEqProofs only [go_sem,zhU,gi,rb,ilt hi,ilt hk,gk,ro,yc,hM,c,ofS,k22,eq_true g20,eq_true g17,eq_true k20,eq_true k17,l1,gl,ya,yb,za hk hbo.ops,this]
     ·omega
    ·have k22 : ¬ o.kind > 22:=by omega
     have g20 : ¬ o.kind > 20:=k20
     by_cases k17 : 17 < o.kind
     ·have g17 : o.kind > 17:=k17
      by_cases l1 : 1 < o.lanes
      ·have gl : o.lanes > 1:=l1
       rcases hlv with rfl | rfl | rfl <;> simp -implicitDefEqProofs only [go_sem,zhU,gi,rb,ilt hi,ilt hk,gk,ro,yc,hM,c,ofS,k22,g20,eq_true g17,k20,eq_true k17,eq_true l1,eq_true gl,ya,yb,za hk hbo.ops,this]
      ·have gl : ¬ o.lanes > 1:=l1
       rcases hlv with rfl | rfl | rfl <;> simp -implicitDefEqProofs only [go_sem,zhU,gi,rb,ilt hi,ilt hk,gk,ro,yc,hM,c,ofS,k22,g20,eq_true g17,k20,eq_true k17,l1,gl,ya,yb,za hk hbo.ops,this]
     ·have g17 : ¬ o.kind > 17:=k17
      by_cases l1 : 1 < o.lanes
      ·have gl : o.lanes > 1:=l1
       rcases hlv with rfl | rfl | rfl <;> simp -implicitDefEqProofs only [go_sem,zhU,gi,rb,ilt hi,ilt hk,gk,ro,yc,hM,c,ofS,k22,g20,g17,k20,k17,eq_true l1,eq_true gl,ya,yb,za hk hbo.ops,this]
      ·have gl : ¬ o.lanes > 1:=l1
       rcases hlv with rfl | rfl | rfl <;> simp -implicitDefEqProofs only [go_sem,zhU,gi,rb,ilt hi,ilt hk,gk,ro,yc,hM,c,ofS,k22,g20,g17,k20,k17,l1,gl,ya,yb,za hk hbo.ops,this]
theorem zv7 (hlv : level = 0 ∨ level = 1 ∨ level = 2) : ∀ (d k : Nat),f.blocks.length - k = d → k ≤ f.blocks.length → ∃ r,∀ (a0 a3 a4 a6 a7 a8 a9 a10 a11 a12 a13 a14 a15 a16 a17 a18 : V),
  exec T zai ⟨[a0,vI level,.one (.ptr 0 0 0 0),a3,a4,vI k,a6,a7,a8,a9,a10,a11,a12,a13,a14,a15,a16,a17,a18],zhU f [],0,0⟩ =
   some (if (f.blocks.drop k).all (zjw level) = true then (.exit 2,⟨[vU,vU,.one (.ptr 0 0 0 0),vU,vU,vU,vU,vU,vU,vU,vU,vU,vU,vU,vU,vU,vU,vU,vU],zhU f [],0,0⟩) else (.ret,⟨[vU,vU,vU,vB false,vU,vU,vU,vU,vU,vU,vU,vU,vU,vU,vU,vU,vU,vU,vU],zhU f r,0,0⟩)):=by
 intro d
 induction d with
 | zero =>
   intro k h1 h2
   have hk : k = f.blocks.length:=by omega
   subst hk
   refine ⟨[],fun a0 a3 a4 a6 a7 a8 a9 a10 a11 a12 a13 a14 a15 a16 a17 a18 => ?_⟩
   rw [xl zai rfl,zaD]
   simp -implicitDefEqProofs only [go_sem,zhU,yh,yc,yi,yu]
 | succ d ih =>
   intro k h1 h2
   have hk : k < f.blocks.length:=by omega
   have hd : f.blocks.drop k = f.blocks[k] :: f.blocks.drop (k + 1):=yf hk
   obtain ⟨b,hb'⟩ : ∃ b,b = f.blocks[k]:=⟨_,rfl⟩
   have hb:=hf.block _ (yt hk)
   rw [← hb'] at hb
   have hP:=fun a0 a3 a4 a7 a8 a9 a10 a11 a12 a13 a14 a15 a16 a17 a18 => zwa f hf level b k hk hb' hb.phis b.phis.length 0 a0 a3 a4 a7 a8 a9 a10 a11 a12 a13 a14 a15 a16 a17 a18 (by omega) (by omega)
   have hO:=fun a0 a3 a4 a6 a8 a9 a10 a11 a12 a13 a14 a15 a16 a17 a18 => zwY f hf level hlv b hb k hk hb' b.ops.length 0 a0 a3 a4 a6 a8 a9 a10 a11 a12 a13 a14 a15 a16 a17 a18 (by omega) (by omega)
   simp only [yg,yo] at hP hO
   obtain ⟨r,hr⟩:=ih (k + 1) (by omega) (by omega)
   rw [hd,ys,← hb',zjw]
   simp -implicitDefEqProofs only [go_sem,zhU] at hr
   cases e1 : b.phis.all (fun p => zhH p.bits)
   ·refine ⟨[],fun a0 a3 a4 a6 a7 a8 a9 a10 a11 a12 a13 a14 a15 a16 a17 a18 => ?_⟩
    rw [xl zai rfl,zaD]
    simp -implicitDefEqProofs only [go_sem,zhU,e1,yj] at hP
    simp -implicitDefEqProofs only [go_sem,zhU,ilt hk,yc,hP]
   ·simp -implicitDefEqProofs only [go_sem,zhU,e1] at hP
    cases e2 : b.ops.find? (fun o => !ofS level o) with
    | some o =>
      have qa:=zeQ e2
      refine ⟨[.cells 0 6 [cOp o]],fun a0 a3 a4 a6 a7 a8 a9 a10 a11 a12 a13 a14 a15 a16 a17 a18 => ?_⟩
      rw [xl zai rfl,zaD]
      simp -implicitDefEqProofs only [go_sem,zhU,e2] at hO
      simp -implicitDefEqProofs only [go_sem,zhU,ilt hk,yc,hP,hO,qa,yl]
    | none =>
      have qa:=zeU e2
      refine ⟨r,fun a0 a3 a4 a6 a7 a8 a9 a10 a11 a12 a13 a14 a15 a16 a17 a18 => ?_⟩
      rw [xl zai rfl,zaD]
      simp -implicitDefEqProofs only [go_sem,zhU,e2] at hO
      simp -implicitDefEqProofs only [go_sem,zhU,ilt hk,yc,hP,hO,qa,za hk hf.blocks,hr]
theorem zrA (hlv : level = 0 ∨ level = 1 ∨ level = 2) : call T 72 [zgS f,vI level] [] = some (vB (zfk f level),[]):=by
 rw [ze (fn:=zaJ) rfl]
 have h0:=fun a0 a3 a5 a6 a7 a8 a9 a10 a11 a12 a13 a14 a15 a16 a17 a18 => zxt f hf level f.params.length 0 a0 a3 a5 a6 a7 a8 a9 a10 a11 a12 a13 a14 a15 a16 a17 a18 (by omega) (by omega)
 obtain ⟨r,h3⟩:=zv7 f hf level hlv f.blocks.length 0 (by omega) (by omega)
 have hM:=zfJ f.ret
 simp only [yg,yo] at h0 h3
 simp -implicitDefEqProofs only [go_sem] at hM
 cases e1 : f.params.all zhH
 ·simp -implicitDefEqProofs only [go_sem,zhU,e1,yj] at h0
  simp -implicitDefEqProofs only [go_sem,zaJ,zfk,h0,e1,yl]
 ·simp -implicitDefEqProofs only [go_sem,zhU,e1] at h0
  cases e2 : f.blocks.all (zjw level)
  ·simp -implicitDefEqProofs only [go_sem,zhU,e2,yj] at h3
   simp -implicitDefEqProofs only [go_sem,zaJ,zfk,h0,h3,e1,e2,yl]
  ·simp -implicitDefEqProofs only [go_sem,zhU,e2] at h3
   simp -implicitDefEqProofs only [go_sem,zaJ,zfk,h0,h3,hM,e1,e2,yA]
end
end AC
namespace AC
open Go Go.A Go.A.Lex
section
variable (succ pred : List (List Int)) (root : Int) (hn1 : 1 ≤ succ.length) (hn : succ.length ≤ 64) (hl : ∀ l ∈ succ,l.length ≤ 4294967296) (hr : ∀ l ∈ succ,∀ y ∈ l,0 ≤ y ∧ y < (succ.length : Int)) (h0 : 0 ≤ root ∧ root < (succ.length : Int))
abbrev sO7 (out : List Int) : zd:=sT7 succ pred root succ.length succ.length [.cells 0 1 (out.map zj)]
theorem zy3 (o : Ob) (c : Nat) (h : c < succ.length) : (zeT succ root succ.length ++ [o])[c]? = some (.cells 0 1 ((znS succ root c).map zfD)):=by
 rw [List.getElem?_append_left (by rw [zaH]; exact h)]
 exact zwm succ root _ c h
theorem zxK (c b : Nat) (h : b < succ.length) : ((znS succ root c).map zfD)[b]? = some [.f (.lit (.bool (ovB succ root c b)))]:=by
 rw [yk,zta succ root c b h]
 rfl
theorem zCE (o : Ob) : (zeT succ root succ.length ++ [o])[succ.length]? = some o:=by
 rw [List.getElem?_append_right (by rw [zaH]; omega),zaH,Nat.sub_self]
 rfl
theorem zFT (o p : Ob) : (zeT succ root succ.length ++ [o]).set succ.length p = zeT succ root succ.length ++ [p]:=by
 have:=zr3 (zeT succ root succ.length) [] o p
 rwa [zaH] at this
include hn hl hr h0
theorem zAL (out : List Int) (b a : Nat) (hb : b < succ.length) (ha : a < succ.length) : ∀ (d k : Nat) (nr : Bool) (a0 a2 a3 a5 a7 a8 a9 a15 a16 a17 a18 a19 a20 a21 a22 a23 : V),succ.length - k = d → k ≤ succ.length →
  exec T zbR ⟨[a0,vI root,a2,a3,vI succ.length,a5,.one (.own 1 0 0 succ.length),a7,a8,a9,.one (.own (succ.length + 1 + 1) 0 0 succ.length),vI b,vI a,vB nr,vI k,a15,a16,a17,a18,a19,a20,a21,a22,a23],sO7 succ pred root out,0,0⟩ =
   some (.exit 8,⟨[vU,vI root,vU,vU,vI succ.length,vU,.one (.own 1 0 0 succ.length),vU,vU,vU,.one (.own (succ.length + 1 + 1) 0 0 succ.length),vI b,vI a,vB (nr && ze3 succ root b a k d),vU,vU,vU,vU,vU,vU,vU,vU,vU,vU],sO7 succ pred root out,0,0⟩):=by
 intro d
 induction d with
 | zero =>
   intro k nr a0 a2 a3 a5 a7 a8 a9 a15 a16 a17 a18 a19 a20 a21 a22 a23 h1 h2
   have hk : k = succ.length:=by omega
   subst hk
   have d1:=ovl succ root succ.length 999997 (by omega)
   rw [xl zbR rfl,zeq]
   simp -implicitDefEqProofs only [go_sem,sT7,yh,d1,ze3,yA]
 | succ d ih =>
   intro k nr a0 a2 a3 a5 a7 a8 a9 a15 a16 a17 a18 a19 a20 a21 a22 a23 h1 h2
   have hk : k < succ.length:=by omega
   have d1:=ovl succ root succ.length 999997 (by omega)
   have go:=zhb succ.length succ.length k hk hk
   have gr:=fun o => zy3 succ root o k hk
   have gb:=zxK succ root k b hb
   have ga:=zxK succ root k a ha
   have hlk : (znS succ root k).length = succ.length:=zjP succ root k
   have ib:=ilt hb
   have ia:=ilt ha
   rw [xl zbR rfl,zeq,ze3]
   cases nr with
   | false =>
     have:=ih (k + 1) false vU vU vU vU vU vU vU vU vU vU vU vU vU vU vU vU (by omega) (by omega)
     simp -implicitDefEqProofs only [go_sem,sT7] at this
     simp -implicitDefEqProofs only [go_sem,sT7,ilt hk,d1,za hk (show succ.length ≤ 4294967296 by omega),this]
   | true =>
     by_cases c : k = b
     ·have c' : (k : Int) = (b : Int):=by omega
      have:=ih (k + 1) true vU vU vU vU vU vU vU vU vU vU vU vU vU vU vU vU (by omega) (by omega)
      simp -implicitDefEqProofs only [go_sem,sT7] at this
      simp -implicitDefEqProofs only [go_sem,sT7,ilt hk,d1,eq_true c',eq_true c,za hk (show succ.length ≤ 4294967296 by omega),this]
     ·have c' : ¬ (k : Int) = (b : Int):=by omega
      cases e1 : ovB succ root k b
      ·rw [e1] at gb
       have:=ih (k + 1) true vU vU vU vU vU vU vU vU vU vU vU vU vU vU vU vU (by omega) (by omega)
       simp -implicitDefEqProofs only [go_sem,sT7] at this
       simp -implicitDefEqProofs only [go_sem,sT7,ilt hk,ib,d1,c',c,go,gr,gb,yd,ye,ya,yb,za hk (show succ.length ≤ 4294967296 by omega),this]
      ·rw [e1] at gb
       cases e2 : ovB succ root k a
       ·rw [e2] at ga
        have:=ih (k + 1) false vU vU vU vU vU vU vU vU vU vU vU vU vU vU vU vU (by omega) (by omega)
        simp -implicitDefEqProofs only [go_sem,sT7] at this
        simp -implicitDefEqProofs only [go_sem,sT7,ilt hk,ib,ia,d1,c',c,go,gr,gb,ga,yd,ye,ya,yb,za hk (show succ.length ≤ 4294967296 by omega),this]
       ·rw [e2] at ga
        have:=ih (k + 1) true vU vU vU vU vU vU vU vU vU vU vU vU vU vU vU vU (by omega) (by omega)
        simp -implicitDefEqProofs only [go_sem,sT7] at this
        simp -implicitDefEqProofs only [go_sem,sT7,ilt hk,ib,ia,d1,c',c,go,gr,gb,ga,yd,ye,ya,yb,za hk (show succ.length ≤ 4294967296 by omega),this]
theorem zBb (b : Nat) (hb : b < succ.length) (hbr : ¬ (b : Int) = root) : ∀ (d k : Nat) (v : Int) (out : List Int) (a0 a2 a3 a5 a7 a8 a9 a13 a14 a15 a16 a17 a18 a19 a20 a21 a22 a23 : V),succ.length - k = d → k ≤ succ.length → out.length = succ.length →
  exec T zap ⟨[a0,vI root,a2,a3,vI succ.length,a5,.one (.own 1 0 0 succ.length),a7,a8,a9,.one (.own (succ.length + 1 + 1) 0 0 succ.length),vI b,vI k,a13,a14,a15,a16,a17,a18,a19,a20,a21,a22,a23],sO7 succ pred root (out.set b v),0,0⟩ =
   some (.exit 6,⟨[vU,vI root,vU,vU,vI succ.length,vU,.one (.own 1 0 0 succ.length),vU,vU,vU,.one (.own (succ.length + 1 + 1) 0 0 succ.length),vI b,vU,vU,vU,vU,vU,vU,vU,vU,vU,vU,vU,vU],sO7 succ pred root (out.set b (zfW succ root b k d v)),0,0⟩):=by
 intro d
 induction d with
 | zero =>
   intro k v out a0 a2 a3 a5 a7 a8 a9 a13 a14 a15 a16 a17 a18 a19 a20 a21 a22 a23 h1 h2 ho
   have hk : k = succ.length:=by omega
   subst hk
   have d1:=ovl succ root succ.length 999997 (by omega)
   rw [xl zap rfl,zcr]
   simp -implicitDefEqProofs only [go_sem,sT7,yh,d1,zfW]
 | succ d ih =>
   intro k v out a0 a2 a3 a5 a7 a8 a9 a13 a14 a15 a16 a17 a18 a19 a20 a21 a22 a23 h1 h2 ho
   have hk : k < succ.length:=by omega
   have d1:=ovl succ root succ.length 999997 (by omega)
   have go:=zhb succ.length succ.length k hk hk
   have gr:=fun o => zy3 succ root o k hk
   have gb:=zxK succ root k b hb
   have gl:=fun o => zCE succ root o
   have sl:=fun o p => zFT succ root o p
   have hlk : (znS succ root k).length = succ.length:=zjP succ root k
   have ib:=ilt hb
   have hN:=fun a0 a2 a3 a5 a7 a8 a9 a15 a16 a17 a18 a19 a20 a21 a22 a23 => zAL succ pred root hn hl hr h0 (out.set b v) b k hb hk succ.length 0 true a0 a2 a3 a5 a7 a8 a9 a15 a16 a17 a18 a19 a20 a21 a22 a23 (by omega) (by omega)
   simp only [yg] at hN
   have hol : (out.set b v).length = succ.length:=by rw [yx]; exact ho
   have gv : ((out.set b v).map zj)[b]? = some [.f (.lit (.int .i64 v))]:=by
    rw [yk,yp (by omega)]
    rfl
   have hset : ((out.set b v).map zj).set b [C.f (.lit (.int .i64 (k : Int)))] = (out.set b (k : Int)).map zj:=by
    have : ((out.set b v).set b (k : Int)) = out.set b (k : Int):=yC _
    rw [← this,yv (l:=out.set b v)]
    rfl
   have i1:=ih (k + 1) v out vU vU vU vU vU vU vU vU vU vU vU vU vU vU vU vU vU vU (by omega) (by omega) ho
   have i2:=ih (k + 1) (k : Int) out vU vU vU vU vU vU vU vU vU vU vU vU vU vU vU vU vU vU (by omega) (by omega) ho
   obtain ⟨os,hos⟩ : ∃ os,os = out.set b v:=⟨_,rfl⟩
   obtain ⟨ok,hok⟩ : ∃ ok,ok = out.set b (k : Int):=⟨_,rfl⟩
   rw [← hos] at gv hset hol hN i1 ⊢
   rw [← hok] at hset i2
   rw [xl zap rfl,zcr,zfW]
   simp -implicitDefEqProofs only [go_sem,sT7] at i1 i2 hN
   by_cases c : k = b
   ·have c' : (k : Int) = (b : Int):=by omega
    simp -implicitDefEqProofs only [go_sem,sT7,ilt hk,d1,hbr,eq_true c',eq_true c,za hk (show succ.length ≤ 4294967296 by omega),i1]
   ·have c' : ¬ (k : Int) = (b : Int):=by omega
    cases e1 : ovB succ root k b
    ·rw [e1] at gb
     simp -implicitDefEqProofs only [go_sem,sT7,ilt hk,ib,d1,hbr,c',c,go,gr,gb,yd,ye,ya,yb,za hk (show succ.length ≤ 4294967296 by omega),i1]
    ·rw [e1] at gb
     cases e2 : ze3 succ root b k 0 succ.length
     ·simp -implicitDefEqProofs only [e2] at hN
      simp -implicitDefEqProofs only [go_sem,sT7,ilt hk,ib,d1,hbr,c',c,go,gr,gb,hN,yd,ye,ya,yb,za hk (show succ.length ≤ 4294967296 by omega),i1]
     ·simp -implicitDefEqProofs only [e2] at hN
      simp -implicitDefEqProofs only [go_sem,sT7,ilt hk,ib,d1,hbr,c',c,go,gr,gb,gl,sl,gv,hset,hN,yd,ye,ym,ya,yb,za hk (show succ.length ≤ 4294967296 by omega),i2]
theorem zrY (b : Nat) (hb : b < succ.length) (hbr : (b : Int) = root) (out : List Int) a0 a2 a3 a5 a7 a8 a9 a13 a14 a15 a16 a17 a18 a19 a20 a21 a22 a23 :
  exec T zap ⟨[a0,vI root,a2,a3,vI succ.length,a5,.one (.own 1 0 0 succ.length),a7,a8,a9,.one (.own (succ.length + 1 + 1) 0 0 succ.length),vI b,vI 0,a13,a14,a15,a16,a17,a18,a19,a20,a21,a22,a23],sO7 succ pred root out,0,0⟩ =
   some (.exit 6,⟨[vU,vI root,vU,vU,vI succ.length,vU,.one (.own 1 0 0 succ.length),vU,vU,vU,.one (.own (succ.length + 1 + 1) 0 0 succ.length),vI b,vU,vU,vU,vU,vU,vU,vU,vU,vU,vU,vU,vU],sO7 succ pred root out,0,0⟩):=by
 have d1:=ovl succ root succ.length 999997 (by omega)
 have hz : (0 : Int) < (succ.length : Int):=by omega
 rw [xl zap rfl,zcr]
 simp -implicitDefEqProofs only [go_sem,sT7,d1,eq_true hz,eq_true hbr]
theorem zB7 : ∀ (d k : Nat) (a0 a2 a3 a5 a7 a8 a9 a12 a13 a14 a15 a16 a17 a18 a19 a20 a21 a22 a23 : V),succ.length - k = d → k ≤ succ.length →
  exec T zcb ⟨[a0,vI root,a2,a3,vI succ.length,a5,.one (.own 1 0 0 succ.length),a7,a8,a9,.one (.own (succ.length + 1 + 1) 0 0 succ.length),vI k,a12,a13,a14,a15,a16,a17,a18,a19,a20,a21,a22,a23],sO7 succ pred root (zgm succ root k),0,0⟩ =
   some (.exit 4,⟨[vU,vU,vU,vU,vU,vU,vU,vU,vU,vU,.one (.own (succ.length + 1 + 1) 0 0 succ.length),vU,vU,vU,vU,vU,vU,vU,vU,vU,vU,vU,vU,vU],sO7 succ pred root (zeZ succ root),0,0⟩):=by
 intro d
 induction d with
 | zero =>
   intro k a0 a2 a3 a5 a7 a8 a9 a12 a13 a14 a15 a16 a17 a18 a19 a20 a21 a22 a23 h1 h2
   have hk : k = succ.length:=by omega
   subst hk
   have d1:=ovl succ root succ.length 999997 (by omega)
   rw [xl zcb rfl,zec]
   simp -implicitDefEqProofs only [go_sem,sT7,yh,d1,zz7]
 | succ d ih =>
   intro k a0 a2 a3 a5 a7 a8 a9 a12 a13 a14 a15 a16 a17 a18 a19 a20 a21 a22 a23 h1 h2
   have hk : k < succ.length:=by omega
   have d1:=ovl succ root succ.length 999997 (by omega)
   have gl:=fun o => zCE succ root o
   have sl:=fun o p => zFT succ root o p
   have htl:=zf8 succ root k
   have gv : ((zgm succ root k).map zj)[k]? = some [.f (.lit (.int .i64 0))]:=by
    rw [yk,zms succ root k k hk,if_neg (by omega)]
    rfl
   have hset : ((zgm succ root k).map zj).set k [C.f (.lit (.int .i64 (-2)))] = ((zgm succ root k).set k (-2)).map zj:=by rw [yv]; rfl
   have:=ih (k + 1) vU vU vU vU vU vU vU vU vU vU vU vU vU vU vU vU vU vU vU (by omega) (by omega)
   have hst:=zzu succ root k hk
   have hl2 : ((zgm succ root k).set k (-2)).length = succ.length:=by rw [yx]; exact htl
   rw [xl zcb rfl,zec]
   by_cases c : (k : Int) = root
   ·have e : zrQ succ root k = -1:=by unfold zrQ; rw [if_pos c]
    rw [e] at hst
    have hg2 : (((zgm succ root k).set k (-2)).map zj)[k]? = some [.f (.lit (.int .i64 (-2)))]:=by
     rw [yk,yp (by omega)]
     rfl
    have hset2 : (((zgm succ root k).set k (-2)).map zj).set k [C.f (.lit (.int .i64 (-1)))] = (zgm succ root (k + 1)).map zj:=by
     have h3 : ((zgm succ root k).set k (-2)).set k (-1) = zgm succ root (k + 1):=by rw [yC,hst]
     rw [← h3,yv (l:=(zgm succ root k).set k (-2))]
     rfl
    have hN:=fun a0 a2 a3 a5 a7 a8 a9 a13 a14 a15 a16 a17 a18 a19 a20 a21 a22 a23 => zrY succ pred root hn hl hr h0 k hk c (zgm succ root (k + 1)) a0 a2 a3 a5 a7 a8 a9 a13 a14 a15 a16 a17 a18 a19 a20 a21 a22 a23
    obtain ⟨os,hos⟩ : ∃ os,os = (zgm succ root k).set k (-2):=⟨_,rfl⟩
    rw [← hos] at hset hg2 hset2 hl2
    simp -implicitDefEqProofs only [go_sem,sT7] at hN this
    simp -implicitDefEqProofs only [go_sem,sT7,ilt hk,d1,eq_true c,gl,sl,gv,hset,hg2,hset2,hN,yd,ye,ym,ya,yb,za hk (show succ.length ≤ 4294967296 by omega),this]
   ·have e : zrQ succ root k = zfW succ root k 0 succ.length (-2):=by unfold zrQ; rw [if_neg c]
    rw [e] at hst
    have hN:=fun a0 a2 a3 a5 a7 a8 a9 a13 a14 a15 a16 a17 a18 a19 a20 a21 a22 a23 => zBb succ pred root hn hl hr h0 k hk c succ.length 0 (-2) (zgm succ root k) a0 a2 a3 a5 a7 a8 a9 a13 a14 a15 a16 a17 a18 a19 a20 a21 a22 a23 (by omega) (by omega) htl
    simp only [yg,hst] at hN
    obtain ⟨os,hos⟩ : ∃ os,os = (zgm succ root k).set k (-2):=⟨_,rfl⟩
    rw [← hos] at hset hl2
    simp only [← hos] at hN
    simp -implicitDefEqProofs only [go_sem,sT7] at hN this
    simp -implicitDefEqProofs only [go_sem,sT7,ilt hk,d1,c,gl,sl,gv,hset,hN,yd,ye,ym,ya,yb,za hk (show succ.length ≤ 4294967296 by omega),this]
end
theorem zsD (succ : List (List Int)) (hs : zjo succ) (hm : zbk succ = true) (root : Int) (h0 : 0 ≤ root ∧ root < (succ.length : Int)) : call T 78 [.agg [.f (.sl (succ.map rl)),.f (.sl ((zM succ).map rl))],vI root] [] = some (vIs (zeZ succ root),[]):=by
 rw [ze (fn:=zeM) rfl]
 obtain ⟨n1,n64,hr⟩:=zeA hm
 have hM:=zzx succ hs hm
 have hR:=zmF succ (zM succ) (by omega) hs.2 hr (-1) root h0
 have h1:=fun a0 a3 a8 a9 a10 a11 a12 a13 a14 a15 a16 a17 a18 a19 a20 a21 a22 a23 => zA8 succ (zM succ) root n64 hs.2 hr h0 succ.length 0 a0 a3 a8 a9 a10 a11 a12 a13 a14 a15 a16 a17 a18 a19 a20 a21 a22 a23 (by omega) (by omega)
 have h4:=fun a0 a2 a3 a5 a7 a8 a9 a12 a13 a14 a15 a16 a17 a18 a19 a20 a21 a22 a23 => zB7 succ (zM succ) root n64 hs.2 hr h0 succ.length 0 a0 a2 a3 a5 a7 a8 a9 a12 a13 a14 a15 a16 a17 a18 a19 a20 a21 a22 a23 (by omega) (by omega)
 have e0 : zeT succ root 0 = []:=rfl
 have hlim : (succ.length : Int) ≤ (LIM : Int):=by unfold LIM; omega
 have hz : yz succ.length [C.f (.sl [])] = zmC succ.length 0:=(zw8 _).symm
 have hz2 : yz succ.length [C.f (.lit (.int .i64 0))] = (zgm succ root 0).map zj:=by rw [zwz,List.map_replicate]; rfl
 have hlen : (zeT succ root succ.length).length = succ.length:=zaH succ root succ.length
 have gl:=fun o => zCE succ root o
 have ht : ((zeZ succ root).map zj).take succ.length = (zeZ succ root).map zj:=List.take_of_length_le (by simp [zeZ])
 have r0 : ¬ root < 0:=by omega
 have r1 : ¬ root ≥ (succ.length : Int):=by omega
 simp only [yg] at h1 h4
 simp -implicitDefEqProofs only [go_sem] at hM hR
 simp -implicitDefEqProofs only [go_sem,sT7,e0,List.append_nil,List.nil_append] at h1 h4
 simp -implicitDefEqProofs only [go_sem,zeM,hM,hR,r0,r1,hlim,hz,hz2,hlen,h1,h4,gl,ht,zdb,yc,yq,List.cons_append,yd,ye,ya,yb]
end AC
namespace AC
open Go Go.A Go.A.Lex
def pathFrom (t : List Int) : Nat → List Int → Int → List Int
 | 0,_,_ => []
 | r + 1,acc,a => if a < 0 ∨ (t.length : Int) ≤ a then [] else if tr t a = -1 then acc ++ [a] else pathFrom t r (acc ++ [a]) (tr t a)
def zid (t : List Int) (a : Int) : List Int:=pathFrom t t.length [] a
theorem zqk (t : List Int) : ∀ (r : Nat) (acc : List Int) (a n : Int),0 ≤ n → (pathFrom t r acc a = [] ↔ (zX t r n a).getD (-1) < 0)
 | 0,acc,a,n,_ => by simp [pathFrom,zX]
 | r + 1,acc,a,n,hn => by
   rw [pathFrom,zX]
   by_cases c1 : a < 0
   ·rw [if_pos (.inl c1),if_pos c1]
    simp
   ·by_cases c2 : (t.length : Int) ≤ a
    ·rw [if_pos (.inr c2),if_neg c1,if_pos c2]
     simp
    ·rw [if_neg (by omega),if_neg c1,if_neg c2]
     by_cases c3 : tr t a = -1
     ·rw [if_pos c3,if_pos c3]
      simp
      exact hn
     ·rw [if_neg c3,if_neg c3]
      exact zqk t r (acc ++ [a]) (tr t a) (n + 1) (by omega)
theorem zxM (t : List Int) (a : Int) : zid t a = [] ↔ zE t a < 0:=zqk t _ [] a 0 (Int.le_refl _)
section
variable (t : List Int) (htl : t.length ≤ 4294967296)
include htl
theorem zBD : ∀ (r : Nat) (acc : List Int) (a : Int),acc.length + r = t.length → ∃ k,∀ (a2 a4 a5 : V),
  exec T z8 ⟨[vIs t,vI a,a2,.one (.ap 0 0 (acc.map ri)),a4,a5],[.tok 1 [acc.length]],0,0⟩ =
   some (if pathFrom t r acc a = [] then (.exit 0,⟨[vU,vU,vU,vU,vU,vU],[.tok 1 [k]],0,0⟩) else (.ret,⟨[vU,vU,.one (.ap 0 0 ((pathFrom t r acc a).map ri)),vU,vU,vU],[.tok 1 [(pathFrom t r acc a).length]],0,0⟩)):=by
 intro r
 induction r with
 | zero =>
   intro acc a h
   have e : ¬ (acc.length : Int) < (t.length : Int):=by omega
   refine ⟨acc.length,fun a2 a4 a5 => ?_⟩
   rw [xl z8 rfl,zan,pathFrom]
   simp -implicitDefEqProofs only [go_sem,yc,e]
 | succ r ih =>
   intro acc a h
   have e : (acc.length : Int) < (t.length : Int):=by omega
   by_cases c1 : a < 0
   ·have c1' : ¬ a ≥ 0:=by omega
    refine ⟨acc.length,fun a2 a4 a5 => ?_⟩
    rw [xl z8 rfl,zan,pathFrom,if_pos (.inl c1 : a < 0 ∨ (t.length : Int) ≤ a)]
    simp -implicitDefEqProofs only [go_sem,yc,eq_true e,c1']
   have c1' : a ≥ 0:=by omega
   by_cases c2 : (t.length : Int) ≤ a
   ·have c2' : ¬ a < (t.length : Int):=by omega
    refine ⟨acc.length,fun a2 a4 a5 => ?_⟩
    rw [xl z8 rfl,zan,pathFrom,if_pos (.inr c2 : a < 0 ∨ (t.length : Int) ≤ a)]
    simp -implicitDefEqProofs only [go_sem,yc,eq_true e,eq_true c1',c2']
   have c2' : a < (t.length : Int):=by omega
   have gT:=ztU (t:=t) (a:=a) (by omega) c2
   have hlim : acc.length + 1 ≤ LIM:=by unfold LIM; omega
   have e1 : yE ri acc ++ [[Fz.lit (Value.int .i64 a)]] = yE ri (acc ++ [a]):=by simp [ri]
   by_cases c3 : tr t a = -1
   ·refine ⟨0,fun a2 a4 a5 => ?_⟩
    have hne : ¬ acc ++ [a] = []:=by simp
    rw [xl z8 rfl,zan,pathFrom,if_neg (show ¬ (a < 0 ∨ (t.length : Int) ≤ a) by omega),if_pos c3,if_neg hne]
    simp -implicitDefEqProofs only [go_sem,yc,eq_true e,eq_true c1',eq_true c2',gT,hlim,e1,c3,yn,yq,yr,yB]
   ·obtain ⟨k,hk⟩:=ih (acc ++ [a]) (tr t a) (by simp; omega)
    refine ⟨k,fun a2 a4 a5 => ?_⟩
    rw [xl z8 rfl,zan,pathFrom,if_neg (show ¬ (a < 0 ∨ (t.length : Int) ≤ a) by omega),if_neg c3]
    simp -implicitDefEqProofs only [go_sem,yn,yq,yr,yB] at hk
    simp -implicitDefEqProofs only [go_sem,yc,eq_true e,eq_true c1',eq_true c2',gT,hlim,e1,c3,hk]
theorem zjH (a : Int) : call T 132 [vIs t,vI a] [] = some (vIs (zid t a),[]):=by
 rw [ze (fn:=zcH) rfl]
 obtain ⟨k,h⟩:=zBD t htl t.length [] a (by simp)
 have e : pathFrom t t.length [] a = zid t a:=rfl
 rw [e] at h
 simp -implicitDefEqProofs only [go_sem,yD,yr] at h
 by_cases c : zid t a = []
 ·simp -implicitDefEqProofs only [c] at h
  simp -implicitDefEqProofs only [go_sem,zcH,h,c,yD]
 ·simp -implicitDefEqProofs only [c] at h
  simp -implicitDefEqProofs only [go_sem,zcH,h]
theorem zze : ∀ (d k n : Nat) (a1 a4 a5 a6 : V),t.length - k = d → k ≤ t.length → n ≤ k →
  exec T zbI ⟨[vIs t,a1,vI n,vI k,a4,a5,a6],[],0,0⟩ =
   some (match zaE t k n (t.drop k) with | some m => (.exit 0,⟨[vU,vU,vI m,vU,vU,vU,vU],[],0,0⟩) | none => (.ret,⟨[vU,vB false,vU,vU,vU,vU,vU],[],0,0⟩)):=by
 intro d
 induction d with
 | zero =>
   intro k n a1 a4 a5 a6 h1 h2 hn
   have hk : k = t.length:=by omega
   subst hk
   rw [xl zbI rfl,zds]
   simp -implicitDefEqProofs only [go_sem,yh,yc,yi,zaE]
 | succ d ih =>
   intro k n a1 a4 a5 a6 h1 h2 hn
   have hk : k < t.length:=by omega
   have hd : t.drop k = t[k] :: t.drop (k + 1):=yf hk
   obtain ⟨x,hx⟩ : ∃ x,x = t[k]:=⟨_,rfl⟩
   have gk:=zp (r:=ri) hk
   rw [← hx] at gk
   have hP:=zjH t htl (k : Int)
   have hnil:=zxM t (k : Int)
   have w1 : Go.IntKind.i64.wrap ((n : Int) + 1) = ((n + 1 : Nat) : Int):=by rw [wrap_i64] <;> omega
   have i1:=ih (k + 1) n vU vU vU vU (by omega) (by omega) (by omega)
   have i2:=ih (k + 1) (n + 1) vU vU vU vU (by omega) (by omega) (by omega)
   rw [xl zbI rfl,zds,hd,zaE,← hx]
   simp -implicitDefEqProofs only [go_sem] at i1 i2 hP
   by_cases c1 : x = -2
   ·simp -implicitDefEqProofs only [go_sem,ilt hk,gk,ri,yc,c1,ya,yb,za hk htl,i1]
   ·by_cases c2 : zE t (k : Int) < 0
    ·have hp0 : ((zid t (k : Int)).length : Int) = 0:=by rw [hnil.2 c2]; rfl
     by_cases c3 : x = -1
     ·simp -implicitDefEqProofs only [go_sem,ilt hk,gk,ri,yc,eq_true c3,c1,eq_true c2,hP,eq_true hp0,ya,yb,w1]
     ·simp -implicitDefEqProofs only [go_sem,ilt hk,gk,ri,yc,c3,c1,eq_true c2,hP,eq_true hp0,ya,yb]
    ·have hp0 : ¬ ((zid t (k : Int)).length : Int) = 0:=fun h => by
      have h' : (zid t (k : Int)).length = 0:=by omega
      exact c2 (hnil.1 (List.eq_nil_of_length_eq_zero h'))
     by_cases c3 : x = -1
     ·simp -implicitDefEqProofs only [go_sem,ilt hk,gk,ri,yc,eq_true c3,c1,c2,hP,hp0,ya,yb,w1,za hk htl,i2]
     ·simp -implicitDefEqProofs only [go_sem,ilt hk,gk,ri,yc,c3,c1,c2,hP,hp0,ya,yb,za hk htl,i1]
theorem zq1 : call T 131 [vIs t] [] = some (vB (zgp t),[]):=by
 rw [ze (fn:=zcp) rfl]
 have h:=fun a1 a4 a5 a6 => zze t htl t.length 0 0 a1 a4 a5 a6 (by omega) (by omega) (by omega)
 simp only [yg,yo] at h
 unfold zgp
 cases c : zaE t 0 0 t with
 | none =>
   simp -implicitDefEqProofs only [go_sem,c] at h
   simp -implicitDefEqProofs only [go_sem,zcp,h]
   rfl
 | some m =>
   simp -implicitDefEqProofs only [go_sem,c] at h
   simp -implicitDefEqProofs only [go_sem,zcp,h]
   have e : (some m == some 1) = decide ((m : Int) = 1):=by
    by_cases hm : m = 1
    ·subst hm; rfl
    ·rw [decide_eq_false (by omega)]
     simp [hm]
   rw [e]
def zmu (t : List Int) (a b : Int) : Int:=if zgp t = true then ((zid t a).find? fun x => decide (x ∈ zid t b)).getD (-2) else -2
omit htl in
theorem zrE (t : List Int) : ∀ (r : Nat) (acc : List Int) (a : Int),(pathFrom t r acc a).length ≤ acc.length + r
 | 0,acc,a => by simp [pathFrom]
 | r + 1,acc,a => by
   have:=zrE t r (acc ++ [a]) (tr t a)
   rw [pathFrom]
   split
   ·simp
   ·split
    ·simp
    ·rw [yn] at this
     simp at this
     omega
omit htl in
theorem zBh (p q : List Int) (hp : p.length ≤ 4294967296) (hq : q.length ≤ 4294967296) : ∀ (d k : Nat) (a0 a1 a2 a3 a7 a8 a9 : V),p.length - k = d → k ≤ p.length →
  exec T zcg ⟨[a0,a1,a2,a3,vIs p,vIs q,vI k,a7,a8,a9],[],0,0⟩ =
   some (match (p.drop k).find? (fun x => decide (x ∈ q)) with | some x => (.ret,⟨[vU,vU,vU,vI x,vU,vU,vU,vU,vU,vU],[],0,0⟩) | none => (.exit 0,⟨[vU,vU,vU,vU,vU,vU,vU,vU,vU,vU],[],0,0⟩)):=by
 intro d
 induction d with
 | zero =>
   intro k a0 a1 a2 a3 a7 a8 a9 h1 h2
   have hk : k = p.length:=by omega
   subst hk
   rw [xl zcg rfl,zee]
   simp -implicitDefEqProofs only [go_sem,yh,yc,yi,yy]
 | succ d ih =>
   intro k a0 a1 a2 a3 a7 a8 a9 h1 h2
   have hk : k < p.length:=by omega
   have hd : p.drop k = p[k] :: p.drop (k + 1):=yf hk
   have hH:=zlm q p[k] hq
   have:=ih (k + 1) vU vU vU vU vU vU vU (by omega) (by omega)
   rw [xl zcg rfl,zee,hd,yw]
   simp -implicitDefEqProofs only [go_sem] at this
   by_cases c : p[k] ∈ q
   ·simp -implicitDefEqProofs only [go_sem,decide_eq_true c] at hH
    simp -implicitDefEqProofs only [go_sem,ilt hk,zp hk,ri,yc,hH,c,ya,yb]
   ·simp -implicitDefEqProofs only [go_sem,decide_eq_false c] at hH
    simp -implicitDefEqProofs only [go_sem,ilt hk,zp hk,ri,yc,hH,c,ya,yb,za hk hp,this]
theorem zs5 (a b : Int) : call T 79 [vIs t,vI a,vI b] [] = some (vI (zmu t a b),[]):=by
 rw [ze (fn:=za5) rfl]
 have hR:=zq1 t htl
 have hA:=zjH t htl a
 have hB:=zjH t htl b
 have la : (zid t a).length ≤ 4294967296:=by have:=zrE t t.length [] a; unfold zid; simp at this; omega
 have lb : (zid t b).length ≤ 4294967296:=by have:=zrE t t.length [] b; unfold zid; simp at this; omega
 have h:=fun a0 a1 a2 a3 a7 a8 a9 => zBh (zid t a) (zid t b) la lb (zid t a).length 0 a0 a1 a2 a3 a7 a8 a9 (by omega) (by omega)
 simp only [yg,yo] at h
 cases c : zgp t
 ·simp -implicitDefEqProofs only [go_sem,c] at hR
  simp -implicitDefEqProofs only [go_sem,za5,zmu,c,hR,yj]
 ·simp -implicitDefEqProofs only [go_sem,c] at hR
  simp -implicitDefEqProofs only [go_sem] at hA hB
  cases e : (zid t a).find? (fun x => decide (x ∈ zid t b)) with
  | none =>
    simp -implicitDefEqProofs only [go_sem,e] at h
    simp -implicitDefEqProofs only [go_sem,za5,zmu,c,hR,hA,hB,h,e,Option.getD_none]
  | some x =>
    simp -implicitDefEqProofs only [go_sem,e] at h
    simp -implicitDefEqProofs only [go_sem,za5,zmu,c,hR,hA,hB,h,e,Option.getD_some]
end
end AC

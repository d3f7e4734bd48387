/- A part of the proof of SchedDepth. Conditions: none. -/
import Derived.Test.YtmkncmffaaninaaGreatDAT
import Derived.Test.YtmkncmffaaninaaGreatDBB
import Derived.Test.YtmkncmffaaninaaGreatDBA
import Derived.Test.YtmkncmffaaninaaGreatDAX
set_option linter.unusedVariables false
set_option linter.unusedSimpArgs false
set_option linter.unusedSectionVars false
open List renaming length_map → ya,find?_cons → yc,length_append → yd,length_cons → ye,drop_eq_getElem_cons → yg,all_cons → yi,drop_zero → yj,mem_cons_of_mem → yk,all_eq_true → yl,getD_eq_getElem?_getD → ym,mem_cons_self → yn,drop_length → yq,getElem_mem → yr,map_cons → yu,sum_cons → yv,count_cons → yw,find?_nil → yx,mem_cons → yA
open Bool renaming and_eq_true → yb,false_eq_true → yh,or_eq_false_iff → ys,not_eq_true' → yt,true_and → yz,or_true → yB
open Int renaming natCast_zero → yf,toNat_natCast → yo,lt_irrefl → yp
open Nat renaming add_zero → yy
namespace AC
open Go Go.A Go.A.Lex
theorem zv9 (f : PFunc) (hf : okF f) : ∀ (d k : Nat) (a0 a2 a5 : V),f.blocks.length - k = d → k ≤ f.blocks.length →
  exec T zcq ⟨[a0,.one (.ptr 0 0 0 0),a2,vI ((k + ((f.blocks.map fun b => b.phis.length + b.ops.length).take k).sum : Nat) : Int),vI k,a5],[.cells 0 3 [zcJ f]],0,0⟩ =
   some (.exit 0,⟨[vU,vU,vU,vI (zhX f : Int),vU,vU],[.cells 0 3 [zcJ f]],0,0⟩):=by
 intro d
 induction d with
 | zero =>
   intro k a0 a2 a5 h1 h2
   have hk : k = f.blocks.length:=by omega
   subst hk
   rw [xl zcq rfl,zeg]
   have e : (f.blocks.map fun b => b.phis.length + b.ops.length).take f.blocks.length = f.blocks.map fun b => b.phis.length + b.ops.length:=List.take_of_length_le (by simp)
   simp -implicitDefEqProofs only [go_sem,yp,e,zhX,ya]
 | succ d ih =>
   intro k a0 a2 a5 h1 h2
   have hk : k < f.blocks.length:=by omega
   have hk' : k < (f.blocks.map fun b => b.phis.length + b.ops.length).length:=by simpa using hk
   have e:=zmj (f.blocks.map fun b => b.phis.length + b.ops.length) k hk'
   have e2:=zoU (f.blocks.map fun b => b.phis.length + b.ops.length) (k + 1)
   have e3:=hf.small
   have e4:=hf.blocks
   simp only [List.getElem_map] at e
   have w1 : Go.IntKind.i64.wrap (((k + ((f.blocks.map fun b => b.phis.length + b.ops.length).take k).sum : Nat) : Int) + (f.blocks[k].phis.length : Int)) = ((k + ((f.blocks.map fun b => b.phis.length + b.ops.length).take k).sum : Nat) : Int) + (f.blocks[k].phis.length : Int):=by
    rw [wrap_i64] <;> omega
   have w2 : Go.IntKind.i64.wrap (((k + ((f.blocks.map fun b => b.phis.length + b.ops.length).take k).sum : Nat) : Int) + (f.blocks[k].phis.length : Int) + (f.blocks[k].ops.length : Int)) = ((k + ((f.blocks.map fun b => b.phis.length + b.ops.length).take k).sum : Nat) : Int) + (f.blocks[k].phis.length : Int) + (f.blocks[k].ops.length : Int):=by
    rw [wrap_i64] <;> omega
   have w3 : Go.IntKind.i64.wrap (((k + ((f.blocks.map fun b => b.phis.length + b.ops.length).take k).sum : Nat) : Int) + (f.blocks[k].phis.length : Int) + (f.blocks[k].ops.length : Int) + 1) = ((k + 1 + ((f.blocks.map fun b => b.phis.length + b.ops.length).take (k + 1)).sum : Nat) : Int):=by
    rw [wrap_i64] <;> omega
   have:=ih (k + 1) vU vU vU (by omega) (by omega)
   rw [xl zcq rfl,zeg]
   simp -implicitDefEqProofs only [go_sem] at this
   simp -implicitDefEqProofs only [go_sem,ilt hk,zp hk,rb,w1,w2,w3,za hk hf.blocks,ya,this]
theorem ztQ (f : PFunc) (hf : okF f) : call T 123 [zgS f] [] = some (vI (zhX f : Int),[]):=by
 rw [ze (fn:=zeI) rfl]
 have h:=fun a0 a2 a5 => zv9 f hf f.blocks.length 0 a0 a2 a5 (by omega) (by omega)
 simp only [List.take_zero,List.sum_nil,yy,yf] at h
 simp -implicitDefEqProofs only [go_sem] at h
 simp -implicitDefEqProofs only [go_sem,zeI,h]
section
variable (f : PFunc) (hf : okF f)
abbrev st4 (f : PFunc) (b : PBlock) : zd:=[.cells 0 3 [zcJ f],.cells 0 5 [zq b]]
include hf
theorem zyB (b : PBlock) (hb : okB b) (i : Int) : ∀ (d k : Nat) (a0 a2 a6 a7 a8 a9 a10 a11 a12 a13 a14 a15 : V),b.phis.length - k = d → k ≤ b.phis.length →
  exec T zcB ⟨[a0,.one (.ptr 0 0 0 0),a2,vI i,.one (.ptr 1 0 0 0),vI k,a6,a7,a8,a9,a10,a11,a12,a13,a14,a15],st4 f b,0,0⟩ =
   some (match (b.phis.drop k).find? (fun x => !zhy x) with | none => (.exit 2,⟨[vU,.one (.ptr 0 0 0 0),vU,vI i,.one (.ptr 1 0 0 0),vU,vU,vU,vU,vU,vU,vU,vU,vU,vU,vU],st4 f b,0,0⟩) | some x => (.ret,⟨[vU,vU,vB false,vU,vU,vU,vU,vU,vU,vU,vU,vU,vU,vU,vU,vU],st4 f b ++ [.cells 0 4 [zub x]],0,0⟩)):=by
 intro d
 induction d with
 | zero =>
   intro k a0 a2 a6 a7 a8 a9 a10 a11 a12 a13 a14 a15 h1 h2
   have hk : k = b.phis.length:=by omega
   subst hk
   rw [xl zcB rfl,zeF]
   simp -implicitDefEqProofs only [go_sem,st4,yp,ya,yq,yx]
 | succ d ih =>
   intro k a0 a2 a6 a7 a8 a9 a10 a11 a12 a13 a14 a15 h1 h2
   have hk : k < b.phis.length:=by omega
   have hd : b.phis.drop k = b.phis[k] :: b.phis.drop (k + 1):=yg hk
   have ho:=hb.phi _ (yr hk)
   have c1:=zcz b.phis[k].bits
   have c2:=zcz b.phis[k].dst
   have c3:=zf4 b.phis[k].src ho.1
   have c4:=zf4 b.phis[k].args ho.2
   have:=ih (k + 1) vU vU vU vU vU vU vU vU vU vU vU vU (by omega) (by omega)
   rw [xl zcB rfl,zeF,hd]
   simp -implicitDefEqProofs only [go_sem,st4] at this
   cases e1 : num b.phis[k].bits
   ·simp -implicitDefEqProofs only [go_sem,e1] at c1
    simp -implicitDefEqProofs only [go_sem,st4,ilt hk,zp hk,rp,ya,c1,zhy,yc,e1]
   simp -implicitDefEqProofs only [go_sem,e1] at c1
   cases e2 : num b.phis[k].dst
   ·simp -implicitDefEqProofs only [go_sem,e2] at c2
    simp -implicitDefEqProofs only [go_sem,st4,ilt hk,zp hk,rp,ya,c1,c2,zhy,yc,e1,e2]
   simp -implicitDefEqProofs only [go_sem,e2] at c2
   cases e3 : zfI b.phis[k].src
   ·simp -implicitDefEqProofs only [go_sem,e3] at c3
    simp -implicitDefEqProofs only [go_sem,st4,ilt hk,zp hk,rp,ya,c1,c2,c3,zhy,yc,e1,e2,e3]
   simp -implicitDefEqProofs only [go_sem,e3] at c3
   cases e4 : zfI b.phis[k].args
   ·simp -implicitDefEqProofs only [go_sem,e4] at c4
    simp -implicitDefEqProofs only [go_sem,st4,ilt hk,zp hk,rp,ya,c1,c2,c3,c4,zhy,yc,e1,e2,e3,e4]
   simp -implicitDefEqProofs only [go_sem,e4] at c4
   simp -implicitDefEqProofs only [go_sem,st4,ilt hk,zp hk,rp,ya,c1,c2,c3,c4,zhy,yc,e1,e2,e3,e4,za hk hb.phis,this]
theorem zyv (b : PBlock) (hb : okB b) (i : Int) : ∀ (d k : Nat) (a0 a2 a5 a6 a8 a9 a10 a11 a12 a13 a14 a15 : V),b.ops.length - k = d → k ≤ b.ops.length →
  exec T zcD ⟨[a0,.one (.ptr 0 0 0 0),a2,vI i,.one (.ptr 1 0 0 0),a5,a6,vI k,a8,a9,a10,a11,a12,a13,a14,a15],st4 f b,0,0⟩ =
   some (match (b.ops.drop k).find? (fun x => !zkR x) with | none => (.exit 4,⟨[vU,.one (.ptr 0 0 0 0),vU,vI i,.one (.ptr 1 0 0 0),vU,vU,vU,vU,vU,vU,vU,vU,vU,vU,vU],st4 f b,0,0⟩) | some x => (.ret,⟨[vU,vU,vB false,vU,vU,vU,vU,vU,vU,vU,vU,vU,vU,vU,vU,vU],st4 f b ++ [.cells 0 6 [cOp x]],0,0⟩)):=by
 intro d
 induction d with
 | zero =>
   intro k a0 a2 a5 a6 a8 a9 a10 a11 a12 a13 a14 a15 h1 h2
   have hk : k = b.ops.length:=by omega
   subst hk
   rw [xl zcD rfl,zeE]
   simp -implicitDefEqProofs only [go_sem,st4,yp,ya,yq,yx]
 | succ d ih =>
   intro k a0 a2 a5 a6 a8 a9 a10 a11 a12 a13 a14 a15 h1 h2
   have hk : k < b.ops.length:=by omega
   have hd : b.ops.drop k = b.ops[k] :: b.ops.drop (k + 1):=yg hk
   have ho:=hb.op _ (yr hk)
   have c1:=zcz b.ops[k].kind
   have c2:=zcz b.ops[k].bits
   have c3:=zcz b.ops[k].lanes
   have c4:=zcz b.ops[k].dst
   have c5:=zf4 b.ops[k].args ho.2
   have:=ih (k + 1) vU vU vU vU vU vU vU vU vU vU vU vU (by omega) (by omega)
   rw [xl zcD rfl,zeE,hd]
   simp -implicitDefEqProofs only [go_sem,st4] at this
   cases e1 : num b.ops[k].kind
   ·simp -implicitDefEqProofs only [go_sem,e1] at c1
    simp -implicitDefEqProofs only [go_sem,st4,ilt hk,zp hk,ro,ya,c1,zkR,yc,e1]
   simp -implicitDefEqProofs only [go_sem,e1] at c1
   cases e2 : num b.ops[k].bits
   ·simp -implicitDefEqProofs only [go_sem,e2] at c2
    simp -implicitDefEqProofs only [go_sem,st4,ilt hk,zp hk,ro,ya,c1,c2,zkR,yc,e1,e2]
   simp -implicitDefEqProofs only [go_sem,e2] at c2
   cases e3 : num b.ops[k].lanes
   ·simp -implicitDefEqProofs only [go_sem,e3] at c3
    simp -implicitDefEqProofs only [go_sem,st4,ilt hk,zp hk,ro,ya,c1,c2,c3,zkR,yc,e1,e2,e3]
   simp -implicitDefEqProofs only [go_sem,e3] at c3
   cases e4 : num b.ops[k].dst
   ·simp -implicitDefEqProofs only [go_sem,e4] at c4
    simp -implicitDefEqProofs only [go_sem,st4,ilt hk,zp hk,ro,ya,c1,c2,c3,c4,zkR,yc,e1,e2,e3,e4]
   simp -implicitDefEqProofs only [go_sem,e4] at c4
   cases e5 : zfI b.ops[k].args
   ·simp -implicitDefEqProofs only [go_sem,e5] at c5
    simp -implicitDefEqProofs only [go_sem,st4,ilt hk,zp hk,ro,ya,c1,c2,c3,c4,c5,zkR,yc,e1,e2,e3,e4,e5]
   simp -implicitDefEqProofs only [go_sem,e5] at c5
   simp -implicitDefEqProofs only [go_sem,st4,ilt hk,zp hk,ro,ya,c1,c2,c3,c4,c5,zkR,yc,e1,e2,e3,e4,e5,za hk hb.ops,this]
theorem zye : ∀ (d k : Nat),f.blocks.length - k = d → k ≤ f.blocks.length →
  ∃ r,∀ (a0 a2 a4 a5 a6 a7 a8 a9 a10 a11 a12 a13 a14 a15 : V),exec T zJ ⟨[a0,.one (.ptr 0 0 0 0),a2,vI k,a4,a5,a6,a7,a8,a9,a10,a11,a12,a13,a14,a15],[.cells 0 3 [zcJ f]],0,0⟩ =
    some (if (f.blocks.drop k).all zqz = true then (.exit 0,⟨[vU,vU,vU,vU,vU,vU,vU,vU,vU,vU,vU,vU,vU,vU,vU,vU],[.cells 0 3 [zcJ f]],0,0⟩) else (.ret,⟨[vU,vU,vB false,vU,vU,vU,vU,vU,vU,vU,vU,vU,vU,vU,vU,vU],.cells 0 3 [zcJ f] :: r,0,0⟩)):=by
 intro d
 induction d with
 | zero =>
   intro k h1 h2
   have hk : k = f.blocks.length:=by omega
   subst hk
   refine ⟨[],fun a0 a2 a4 a5 a6 a7 a8 a9 a10 a11 a12 a13 a14 a15 => ?_⟩
   rw [xl zJ rfl,zQ]
   simp -implicitDefEqProofs only [go_sem,yp,ya,yq,List.all_nil]
 | succ d ih =>
   intro k h1 h2
   have hk : k < f.blocks.length:=by omega
   have hd : f.blocks.drop k = f.blocks[k] :: f.blocks.drop (k + 1):=yg hk
   have hb:=hf.block _ (yr hk)
   have h0:=fun a0 a2 a6 a7 a8 a9 a10 a11 a12 a13 a14 a15 => zyB f hf f.blocks[k] hb k f.blocks[k].phis.length 0 a0 a2 a6 a7 a8 a9 a10 a11 a12 a13 a14 a15 (by omega) (by omega)
   have h1':=fun a0 a2 a5 a6 a8 a9 a10 a11 a12 a13 a14 a15 => zyv f hf f.blocks[k] hb k f.blocks[k].ops.length 0 a0 a2 a5 a6 a8 a9 a10 a11 a12 a13 a14 a15 (by omega) (by omega)
   have c1:=zcz f.blocks[k].kind
   have c2:=zcz f.blocks[k].arg
   have c3:=zf4 f.blocks[k].to hb.to
   simp only [yj,yf] at h0 h1'
   obtain ⟨r,hr⟩:=ih (k + 1) (by omega) (by omega)
   simp -implicitDefEqProofs only [go_sem] at hr
   cases e1 : f.blocks[k].phis.find? (fun x => !zhy x) with
   | some x =>
     have qa:=zeQ e1
     simp -implicitDefEqProofs only [go_sem,st4,e1] at h0
     refine ⟨[.cells 0 5 [zq f.blocks[k]],.cells 0 4 [zub x]],fun a0 a2 a4 a5 a6 a7 a8 a9 a10 a11 a12 a13 a14 a15 => ?_⟩
     rw [xl zJ rfl,zQ,hd,yi]
     simp -implicitDefEqProofs only [go_sem,ilt hk,zp hk,rb,ya,h0,zqz,qa]
   | none =>
   have qa:=zeU e1
   simp -implicitDefEqProofs only [go_sem,st4,e1] at h0
   cases e2 : f.blocks[k].ops.find? (fun x => !zkR x) with
   | some x =>
     have qb:=zeQ e2
     simp -implicitDefEqProofs only [go_sem,st4,e2] at h1'
     refine ⟨[.cells 0 5 [zq f.blocks[k]],.cells 0 6 [cOp x]],fun a0 a2 a4 a5 a6 a7 a8 a9 a10 a11 a12 a13 a14 a15 => ?_⟩
     rw [xl zJ rfl,zQ,hd,yi]
     simp -implicitDefEqProofs only [go_sem,ilt hk,zp hk,rb,ya,h0,h1',zqz,qa,qb]
   | none =>
   have qb:=zeU e2
   simp -implicitDefEqProofs only [go_sem,st4,e2] at h1'
   cases e3 : num f.blocks[k].kind
   ·simp -implicitDefEqProofs only [go_sem,e3] at c1
    refine ⟨[.cells 0 5 [zq f.blocks[k]]],fun a0 a2 a4 a5 a6 a7 a8 a9 a10 a11 a12 a13 a14 a15 => ?_⟩
    rw [xl zJ rfl,zQ,hd,yi]
    simp -implicitDefEqProofs only [go_sem,ilt hk,zp hk,rb,ya,h0,h1',c1,zqz,zo4,qa,qb,e3]
   simp -implicitDefEqProofs only [go_sem,e3] at c1
   cases e4 : num f.blocks[k].arg
   ·simp -implicitDefEqProofs only [go_sem,e4] at c2
    refine ⟨[.cells 0 5 [zq f.blocks[k]]],fun a0 a2 a4 a5 a6 a7 a8 a9 a10 a11 a12 a13 a14 a15 => ?_⟩
    rw [xl zJ rfl,zQ,hd,yi]
    simp -implicitDefEqProofs only [go_sem,ilt hk,zp hk,rb,ya,h0,h1',c1,c2,zqz,zo4,qa,qb,e3,e4]
   simp -implicitDefEqProofs only [go_sem,e4] at c2
   cases e5 : zfI f.blocks[k].to
   ·simp -implicitDefEqProofs only [go_sem,e5] at c3
    refine ⟨[.cells 0 5 [zq f.blocks[k]]],fun a0 a2 a4 a5 a6 a7 a8 a9 a10 a11 a12 a13 a14 a15 => ?_⟩
    rw [xl zJ rfl,zQ,hd,yi]
    simp -implicitDefEqProofs only [go_sem,ilt hk,zp hk,rb,ya,h0,h1',c1,c2,c3,zqz,zo4,qa,qb,e3,e4,e5]
   simp -implicitDefEqProofs only [go_sem,e5] at c3
   refine ⟨r,fun a0 a2 a4 a5 a6 a7 a8 a9 a10 a11 a12 a13 a14 a15 => ?_⟩
   rw [xl zJ rfl,zQ,hd,yi]
   simp -implicitDefEqProofs only [go_sem,ilt hk,zp hk,rb,ya,h0,h1',c1,c2,c3,zqz,zo4,qa,qb,e3,e4,e5,za hk hf.blocks,hr]
end
theorem zsu {l : List Int} (h : l.length ≤ 64) : zfI l = l.all num:=by
 unfold zfI
 rw [decide_eq_true h,yz]
theorem zup (f : PFunc) (hf : okF f) : call T 70 [zgS f] [] = some (vB (zlx f),[]):=by
 rw [ze (fn:=zH) rfl]
 have hs:=ztQ f hf
 have hi:=zcz f.ret
 have hp:=zf4 f.params hf.params
 simp -implicitDefEqProofs only [go_sem] at hs hi hp
 by_cases c1 : f.blocks.length < 1
 ·have c1' : (f.blocks.length : Int) = 0:=by omega
  simp -implicitDefEqProofs only [go_sem,zH,zlx,c1,eq_true c1',ya]
 have c1' : ¬ (f.blocks.length : Int) = 0:=by omega
 by_cases c2 : 64 < f.blocks.length
 ·have c2' : (f.blocks.length : Int) > 64:=by omega
  simp -implicitDefEqProofs only [go_sem,zH,zlx,c1,c1',c2,eq_true c2',ya]
 have c2' : ¬ (f.blocks.length : Int) > 64:=by omega
 by_cases c3 : 16 < f.params.length
 ·have c3' : (f.params.length : Int) > 16:=by omega
  simp -implicitDefEqProofs only [go_sem,zH,zlx,c1,c1',c2,c2',c3,eq_true c3',ya]
 have c3' : ¬ (f.params.length : Int) > 16:=by omega
 rw [zsu (by omega)] at hp
 cases c6 : f.params.all num
 ·simp -implicitDefEqProofs only [go_sem,c6] at hp
  simp -implicitDefEqProofs only [go_sem,zH,zlx,c1,c1',c2,c2',c3,c3',hp,c6,ya,yB]
 simp -implicitDefEqProofs only [go_sem,c6] at hp
 cases c5 : num f.ret
 ·simp -implicitDefEqProofs only [go_sem,c5] at hi
  simp -implicitDefEqProofs only [go_sem,zH,zlx,c1,c1',c2,c2',c3,c3',hp,hi,c6,c5,ya,yB]
 simp -implicitDefEqProofs only [go_sem,c5] at hi
 by_cases c4 : 512 < zhX f
 ·have c4' : (zhX f : Int) > 512:=by omega
  simp -implicitDefEqProofs only [go_sem,zH,zlx,c1,c1',c2,c2',c3,c3',hs,c4,eq_true c4',hp,hi,c6,c5,ya]
 have c4' : ¬ (zhX f : Int) > 512:=by omega
 obtain ⟨r,h⟩:=zye f hf f.blocks.length 0 (by omega) (by omega)
 simp only [yj,yf] at h
 cases c7 : f.blocks.all zqz
 ·simp -implicitDefEqProofs only [go_sem,c7] at h
  simp -implicitDefEqProofs only [go_sem,zH,zlx,c1,c1',c2,c2',c3,c3',hs,c4,c4',hp,hi,c6,c5,c7,h,ya]
 ·simp -implicitDefEqProofs only [go_sem,c7] at h
  simp -implicitDefEqProofs only [go_sem,zH,zlx,c1,c1',c2,c2',c3,c3',hs,c4,c4',hp,hi,c6,c5,c7,h,ya]
end AC
namespace AC
open Go Go.A Go.A.Lex
theorem zgE {f : PFunc} (h : zlx f = true) : 1 ≤ f.blocks.length ∧ f.blocks.length ≤ 64 ∧ f.params.length ≤ 16 ∧ zhX f ≤ 512 ∧ ∀ b ∈ f.blocks,zqz b = true:=by
 unfold zlx at h
 simp only [yb,yt,ys,decide_eq_false_iff_not,yl] at h
 exact ⟨by omega,by omega,by omega,by omega,h.2⟩
theorem zsH {l : List Int} (h : zfI l = true) : l.length ≤ 64:=by
 unfold zfI at h
 simp only [yb,decide_eq_true_eq] at h
 exact h.1
theorem zqo {b : PBlock} (h : zqz b = true) : (∀ p ∈ b.phis,p.args.length ≤ 64) ∧ ∀ o ∈ b.ops,o.args.length ≤ 64:=by
 unfold zqz at h
 simp only [yb,yl] at h
 refine ⟨fun p hp => ?_,fun o ho => ?_⟩
 ·have:=h.1 p hp
  unfold zhy at this
  simp only [yb] at this
  exact zsH this.2.2
 ·have:=h.2.1 o ho
  unfold zkR at this
  simp only [yb] at this
  exact zsH this.2
theorem zpD : ∀ (l : List PPhi),(∀ p ∈ l,p.args.length ≤ 64) → (zaj l).length ≤ 64 * l.length
 | [],_ => by simp [zaj]
 | p :: l,h => by
   have ih:=zpD l fun q hq => h q (yk _ hq)
   have h1:=h p yn
   have hpl : ∀ (l : List Int) (j : Nat),(zF p j l).length = l.length:=by
    intro l
    induction l with
    | nil => intro j; rfl
    | cons x l ih => intro j; rw [zF,ye,ih,ye]
   have e : zaj (p :: l) = zfO p ++ zaj l:=rfl
   have e2 : (zfO p).length = p.args.length:=hpl _ 0
   rw [e,yd,e2,ye]
   omega
theorem zkN (o : POp) (i at' : Int) : ∀ (l : List (Int × Int)) (k : Nat),(zO o i at' k l).length = l.length
 | [],_ => rfl
 | s :: r,k => by rw [zO,ye,zkN o i at' r,ye]
theorem zqT (i : Int) : ∀ (l : List POp) (k : Nat),(∀ o ∈ l,o.args.length ≤ 64) → (zu i k l).length ≤ 64 * l.length
 | [],_,_ => by simp [zu]
 | o :: l,k,h => by
   have ih:=zqT i l (k + 1) fun q hq => h q (yk _ hq)
   have h1:=h o yn
   have h2:=zmE o
   have e2 : (zkC o i (k : Int)).length = (zaX o).length:=zkN _ _ _ _ _
   rw [zu,yd,e2,ye]
   omega
theorem zoq (f : PFunc) : ∀ (l : List PBlock) (k : Nat),(∀ b ∈ l,zqz b = true) → (zaB f k l).length ≤ 64 * (l.map fun b => b.phis.length + b.ops.length).sum + l.length
 | [],_,_ => by simp [zaB]
 | b :: l,k,h => by
   have ih:=zoq f l (k + 1) fun q hq => h q (yk _ hq)
   obtain ⟨h1,h2⟩:=zqo (h b yn)
   have e1:=zpD b.phis h1
   have e2:=zqT (k : Int) b.ops 0 h2
   have e3 : (zbp f k b).length ≤ 1:=by
    unfold zbp
    split <;> simp
   rw [zaB,zg3,yd,yd,yd,yu,yv,ye]
   omega
theorem zA6 {f : PFunc} (h : zlx f = true) : (ze4 f).length ≤ 40000:=by
 obtain ⟨h1,h2,h3,h4,h5⟩:=zgE h
 have:=zoq f f.blocks 0 h5
 unfold zhX at h4
 unfold ze4
 omega
theorem zA3 {f : PFunc} (h : zlx f = true) : (zL f).length ≤ 600:=by
 obtain ⟨h1,h2,h3,h4,h5⟩:=zgE h
 have key : ∀ (l : List PBlock) (k : Nat),(zV k l).length ≤ (l.map fun b => b.phis.length + b.ops.length).sum:=by
  intro l
  induction l with
  | nil => intro k; simp [zV]
  | cons b l ih =>
    intro k
    have:=ziH (k : Int) b.ops 0
    have:=ih (k + 1)
    rw [zV,yd,yd,yu,yv]
    simp only [zcY,ya]
    omega
 have:=key f.blocks 0
 unfold zhX at h4
 rw [zL,yd,zgd]
 omega
theorem zkI (pred : List (List Int)) (reach : List Bool) : ∀ (l : List PBlock) (i : Nat),zbn pred reach i l = true → ∀ b ∈ l,∃ j,zjb pred reach j b = true
 | [],_,_ => by simp
 | b :: l,i,h => by
   rw [zbn,yb] at h
   intro c hc
   rcases yA.1 hc with rfl | hc
   ·exact ⟨i,h.1⟩
   ·exact zkI pred reach l (i + 1) h.2 c hc
theorem zCh {f : PFunc} (h : zf9 f = true) : ∀ b ∈ f.blocks,zjf b:=fun b hb => by
 unfold zf9 at h
 rw [yb] at h
 obtain ⟨j,hj⟩:=zkI _ _ _ _ h.2 b hb
 unfold zjb at hj
 simp only [yb,yl] at hj
 refine ⟨fun p hp => ?_,fun o _ => zmE o⟩
 have:=hj.2.2 p hp
 unfold zhQ at this
 simp only [yb,decide_eq_true_eq] at this
 exact this.2
def zeV (f : PFunc) : List Use:=(ze4 f).map zW
def zaa (f : PFunc) (level : Int) : Int :=
 if level < 0 ∨ 2 < level then 1 else if zlx f = false then 4 else if zf9 f = false then 5 else if zfk f level = false then 6 else
 if zft (zL f) 0 (zL f) = false then 7 else if (zeV f).all (zjL (zL f)) = false then 7 else if (zeV f).all (sameShape (zL f)) = false then 6 else
 if (zeV f).all (zgc (zL f) (zeZ (zl f) 0)) = false then 7 else 0
theorem zD8 {f : PFunc} {level : Int} (h : zfk f level = true) : ¬ f.ret = 0:=by
 unfold zfk at h
 rw [yb] at h
 have:=zdp h.1
 omega
set_option maxRecDepth 10000 in
theorem zrz (f : PFunc) (hf : okF f) (level : Int) : call T 30 [zgS f,vI level] [] = some (vI (zaa f level),[]):=by
 rw [ze (fn:=zi) rfl]
 by_cases c1 : level < 0
 ·have e : zaa f level = 1:=by unfold zaa; rw [if_pos (.inl c1)]
  rw [e]
  simp -implicitDefEqProofs only [go_sem,zi,eq_true c1]
 by_cases c2 : 2 < level
 ·have e : zaa f level = 1:=by unfold zaa; rw [if_pos (.inr c2)]
  have c2' : level > 2:=c2
  rw [e]
  simp -implicitDefEqProofs only [go_sem,zi,c1,eq_true c2']
 have c2' : ¬ level > 2:=c2
 have hlv : level = 0 ∨ level = 1 ∨ level = 2:=by omega
 have hM:=zup f hf
 cases m : zlx f
 ·have e : zaa f level = 4:=by unfold zaa; rw [if_neg (by omega),if_pos m]
  simp -implicitDefEqProofs only [go_sem,m] at hM
  rw [e]
  simp -implicitDefEqProofs only [go_sem,zi,c1,c2',hM]
 simp -implicitDefEqProofs only [go_sem,m] at hM
 have hS:=zra f hf
 cases s : zf9 f
 ·have e : zaa f level = 5:=by unfold zaa; rw [if_neg (by omega),if_neg (by simp [m]),if_pos s]
  simp -implicitDefEqProofs only [go_sem,s] at hS
  rw [e]
  simp -implicitDefEqProofs only [go_sem,zi,c1,c2',hM,hS]
 simp -implicitDefEqProofs only [go_sem,s] at hS
 have hT:=zrA f hf level hlv
 cases t : zfk f level
 ·have e : zaa f level = 6:=by unfold zaa; rw [if_neg (by omega),if_neg (by simp [m]),if_neg (by simp [s]),if_pos t]
  simp -implicitDefEqProofs only [go_sem,t] at hT
  rw [e]
  simp -implicitDefEqProofs only [go_sem,zi,c1,c2',hM,hS,hT]
 simp -implicitDefEqProofs only [go_sem,t] at hT
 obtain ⟨n1,n64,np,nsz,nb⟩:=zgE m
 have hdl:=zA3 m
 have hul:=zA6 m
 have hD:=zsr f hf (by unfold zhX at nsz; omega)
 have hol : ∀ b ∈ f.blocks,b.ops.length ≤ 1048576:=fun b hb => by
  have h1 : b.phis.length + b.ops.length ≤ (f.blocks.map fun b => b.phis.length + b.ops.length).sum:=by
   have key : ∀ l : List PBlock,b ∈ l → b.phis.length + b.ops.length ≤ (l.map fun b => b.phis.length + b.ops.length).sum:=by
    intro l
    induction l with
    | nil => intro h; cases h
    | cons a l ih =>
      intro h
      simp only [yu,yv]
      rcases yA.1 h with rfl | h
      ·omega
      ·have:=ih h; omega
   exact key _ hb
  unfold zhX at nsz
  omega
 have hU:=zsC f hf (zD8 t) (zCh s) hol (by omega)
 have hUl : (zeV f).length ≤ 4294967296:=by unfold zeV; rw [ya]; omega
 have hUe : (ze4 f).map zW = zeV f:=rfl
 rw [hUe] at hU
 have h0:=fun a0 a1 a3 a6 a7 a8 a9 a10 a11 a12 a13 a14 a15 a16 a17 a18 a19 a20 a21 a22 a23 a24 a25 a26 => zw7 f hf (zL f) (by omega) (zL f).length 0 a0 a1 a3 a6 a7 a8 a9 a10 a11 a12 a13 a14 a15 a16 a17 a18 a19 a20 a21 a22 a23 a24 a25 a26 (by omega) (by omega)
 have h1:=fun a0 a1 a3 a5 a8 a9 a10 a11 a12 a13 a14 a15 a16 a17 a18 a19 a20 a21 a22 a23 a24 a25 a26 => zwc f hf (zL f) (zeV f) (by omega) hUl (zeV f).length 0 a0 a1 a3 a5 a8 a9 a10 a11 a12 a13 a14 a15 a16 a17 a18 a19 a20 a21 a22 a23 a24 a25 a26 (by omega) (by omega)
 simp only [yf,yj] at h0 h1
 simp -implicitDefEqProofs only [go_sem] at hD hU
 have k0 : ∀ x,(if level < 0 ∨ 2 < level then (1 : Int) else if zlx f = false then 4 else if zf9 f = false then 5 else if zfk f level = false then 6 else x) = x:=fun x => by
  rw [if_neg (by omega),if_neg (by simp [m]),if_neg (by simp [s]),if_neg (by simp [t])]
 have e0 : zaa f level = (if zft (zL f) 0 (zL f) = false then 7 else if (zeV f).all (zjL (zL f)) = false then 7 else if (zeV f).all (sameShape (zL f)) = false then 6 else
  if (zeV f).all (zgc (zL f) (zeZ (zl f) 0)) = false then 7 else 0):=by unfold zaa; exact k0 _
 rw [e0]
 cases d0 : zft (zL f) 0 (zL f)
 ·simp -implicitDefEqProofs only [go_sem,zh7,d0,yh] at h0
  simp -implicitDefEqProofs only [go_sem,zi,c1,c2',hM,hS,hT,hD,h0]
 simp -implicitDefEqProofs only [go_sem,zh7,d0] at h0
 cases d1 : (zeV f).all (zjL (zL f))
 ·simp -implicitDefEqProofs only [go_sem,zh7,d1,yh] at h1
  simp -implicitDefEqProofs only [go_sem,zi,c1,c2',hM,hS,hT,hD,h0,hU,h1]
 simp -implicitDefEqProofs only [go_sem,zh7,d1] at h1
 have hall : ∀ u ∈ zeV f,zjL (zL f) u = true:=yl.1 d1
 have h2:=fun a0 a1 a3 a5 a7 a9 a10 a11 a12 a13 a14 a15 a16 a17 a18 a19 a20 a21 a22 a23 a24 a25 a26 => zxd f hf (zL f) (zeV f) (by omega) hUl hall (zeV f).length 0 a0 a1 a3 a5 a7 a9 a10 a11 a12 a13 a14 a15 a16 a17 a18 a19 a20 a21 a22 a23 a24 a25 a26 (by omega) (by omega)
 simp only [yf,yj] at h2
 cases d2 : (zeV f).all (sameShape (zL f))
 ·simp -implicitDefEqProofs only [go_sem,zh7,d2,yh] at h2
  simp -implicitDefEqProofs only [go_sem,zi,c1,c2',hM,hS,hT,hD,h0,hU,h1,h2]
 simp -implicitDefEqProofs only [go_sem,zh7,d2] at h2
 have hg : zat f = true:=by
  unfold zf9 at s
  rw [yb] at s
  exact s.1
 have hm:=zfl hg
 have hsl : (zl f).length = f.blocks.length:=by simp [zl]
 have hO:=zp6 f hf
 have hTr:=zsD (zl f) (zh4 hf) hm 0 (by omega)
 have htl : (zeZ (zl f) 0).length ≤ 4294967296:=by simp [zeZ]; omega
 obtain ⟨r,h3⟩:=zwi f hf (zL f) (zeV f) (by omega) hUl hall (zeZ (zl f) 0) htl (.sl ((zl f).map rl)) (.sl ((zM (zl f)).map rl)) (zeV f).length 0 (by omega) (by omega)
 simp only [yf,yj] at h3
 simp -implicitDefEqProofs only [go_sem,zgo,hg] at hO
 simp -implicitDefEqProofs only [go_sem] at hTr
 cases d3 : (zeV f).all (zgc (zL f) (zeZ (zl f) 0))
 ·simp -implicitDefEqProofs only [go_sem,zh7,d3,yh] at h3
  simp -implicitDefEqProofs only [go_sem,zi,c1,c2',hM,hS,hT,hD,h0,hU,h1,h2,hO,hTr,h3]
 ·simp -implicitDefEqProofs only [go_sem,zh7,d3] at h3
  simp -implicitDefEqProofs only [go_sem,zi,c1,c2',hM,hS,hT,hD,h0,hU,h1,h2,hO,hTr,h3]
end AC
namespace AC
open Dm
section
variable {succ : List (List Int)} {root : Nat} {O : Int → Prop} {pos : Int → Nat} {t : List Int} (Q : TreeOf succ root O pos t)
include Q
theorem zmy : (root : Int) < (succ.length : Int):=(Q.rng _ Q.ord.rt).2
theorem zoy {x : Int} (hx : 0 ≤ x) : tr (t.set root (-1)) x = if x = (root : Int) then -1 else tr t x:=by
 have:=zvS (t:=t) (x:=(root : Int)) (-1) ⟨by omega,by rw [Q.len]; exact zmy Q⟩ hx
 rwa [yo] at this
theorem zFN {x : Int} (h : O x) : tf t x ≠ -2:=zDJ Q.ord Q.inv Q.st h
theorem ztC {x : Int} (h : O x) (hx : x ≠ (root : Int)) : tr (t.set root (-1)) x = tf t x ∧ O (tf t x) ∧ pos (tf t x) < pos x ∧ tf t x ≠ -1:=by
 have rx:=Q.rng x h
 obtain ⟨h1,h2⟩:=Q.inv.par x hx (zFN Q h)
 have h3:=zi9 Q.ord Q.inv h1
 exact ⟨by rw [zoy Q rx.1,if_neg hx,zt9 rx.1],h3,h2,by have:=(Q.rng _ h3).1; omega⟩
theorem zzc {x : Int} (h : ¬ O x) (h0 : 0 ≤ x) : tr (t.set root (-1)) x = -2:=by
 rw [zoy Q h0,if_neg (by rintro rfl; exact h Q.ord.rt),← zt9 h0]
 exact Q.inv.out x h
theorem zkF : (t.set root (-1)).length = succ.length:=by simp [Q.len]
theorem zFy : ∀ (r : Nat) (x k : Int),O x → pos x < r → ∃ m,zX (t.set root (-1)) r k x = some m ∧ k ≤ m:=by
 intro r
 induction r with
 | zero => intro x k _ h; omega
 | succ r ih =>
   intro x k hx hp
   have rx:=Q.rng x hx
   rw [zX,if_neg (by omega),if_neg (by rw [zkF Q]; omega)]
   by_cases c : x = (root : Int)
   ·rw [if_pos (by rw [zoy Q rx.1,if_pos c])]
    exact ⟨k,rfl,Int.le_refl _⟩
   ·obtain ⟨h1,h2,h3,h4⟩:=ztC Q hx c
    rw [h1,if_neg h4]
    obtain ⟨m,m1,m2⟩:=ih _ (k + 1) h2 (by omega)
    exact ⟨m,m1,by omega⟩
theorem zpN {x : Int} (h : O x) : 0 ≤ zE (t.set root (-1)) x:=by
 obtain ⟨m,h1,h2⟩:=zFy Q (t.set root (-1)).length x 0 h (by rw [zkF Q]; exact Q.low x h)
 rw [zE,h1]
 exact h2
theorem zD1 {x : Int} (h : ¬ O x) : zE (t.set root (-1)) x < 0:=by
 by_cases c : 0 ≤ zE (t.set root (-1)) x
 ·have r:=zgJ c
  have e:=zzc Q h r.1
  by_cases z : zE (t.set root (-1)) x = 0
  ·have:=zg8 z
   omega
  ·have:=ze9 c (by omega)
   rw [e] at this
   have h2:=zgJ (t:=t.set root (-1)) (a:=-2) (by omega)
   omega
 ·omega
theorem zAc (x : Int) : 0 ≤ zE (t.set root (-1)) x ↔ O x:=by
 by_cases h : O x
 ·exact ⟨fun _ => h,fun _ => zpN Q h⟩
 ·exact ⟨fun c => absurd c (by have:=zD1 Q h; omega),fun c => absurd c h⟩
omit Q in
theorem znz {tree : List Int} : ∀ (l : List Int) (k m : Nat),(∀ j x,l[j]? = some x → x ≠ -2 → 0 ≤ zE tree ((k + j : Nat) : Int)) → zaE tree k m l = some (m + l.count (-1))
 | [],_,_,_ => by simp [zaE]
 | x :: l,k,m,h => by
   have hr:=fun m' => znz l (k + 1) m' fun j y hj hy => by
    have:=h (j + 1) y (by simpa using hj) hy
    rwa [show k + (j + 1) = k + 1 + j by omega] at this
   rw [zaE]
   by_cases c : x = -2
   ·rw [if_pos c,hr m,c]
    rw [yw]
    simp
   ·have h0:=h 0 x rfl c
    rw [yy] at h0
    rw [if_neg c,if_neg (by omega),hr _,yw]
    by_cases d : x = -1
    ·rw [if_pos d]
     simp [d]
     omega
    ·rw [if_neg d]
     simp [d]
theorem zvX : zgp (t.set root (-1)) = true:=by
 have h:=znz (tree:=t.set root (-1)) (t.set root (-1)) 0 0 fun j x hj hx => by
  rw [Nat.zero_add,zAc Q]
  by_cases c : O (j : Int)
  ·exact c
  ·have:=zzc Q c (by omega)
   unfold tr at this
   rw [yo,ym,hj] at this
   exact absurd this hx
 have hlt : root < t.length:=by have:=zmy Q; rw [Q.len]; omega
 have h0 : t.count (-1) = 0:=by
  rw [List.count_eq_zero]
  intro hm
  obtain ⟨j,hj⟩:=List.mem_iff_getElem?.1 hm
  have e : tf t (j : Int) = -1:=by
   rw [zt9 (by omega)]
   unfold tr
   rw [yo,ym,hj]
   rfl
  have hp : tf t (j : Int) ≠ -2:=by rw [e]; omega
  by_cases c : (j : Int) = (root : Int)
  ·rw [c,Q.inv.rt] at e
   omega
  ·exact (ztC Q (zi9 Q.ord Q.inv hp) c).2.2.2 e
 have h1 : (t.set root (-1)).count (-1) = 1:=by
  rw [List.count_set hlt,h0]
  simp
 unfold zgp
 rw [h,h1]
 rfl
theorem zoe {y x : Int} (h : Anc (root : Int) (tf t) y x) (hx : O x) : O y ∧ (y = x ∨ zE (t.set root (-1)) y < zE (t.set root (-1)) x):=by
 induction h with
 | refl => exact ⟨hx,.inl rfl⟩
 | step n h ih =>
   rename_i x
   obtain ⟨h1,h2,h3,h4⟩:=ztC Q hx n
   obtain ⟨k1,k2⟩:=ih h2
   have:=ze9 (zpN Q hx) (by rw [h1]; exact h4)
   rw [h1] at this
   refine ⟨k1,.inr ?_⟩
   rcases k2 with k2 | k2
   ·rw [k2]; omega
   ·omega
theorem znP : ∀ (r : Nat) (a b : Int),O a → O b → zE (t.set root (-1)) a + zE (t.set root (-1)) b ≤ r → O (ziD (t.set root (-1)) r a b) ∧ ∀ y,Anc (root : Int) (tf t) y (ziD (t.set root (-1)) r a b) ↔ Anc (root : Int) (tf t) y a ∧ Anc (root : Int) (tf t) y b:=by
 have rt : ∀ a,O a → zE (t.set root (-1)) a = 0 → a = (root : Int):=fun a ha h => by
  by_cases c : a = (root : Int)
  ·exact c
  ·obtain ⟨h1,_,_,h4⟩:=ztC Q ha c
   rw [zg8 h] at h1
   exact absurd h1.symm h4
 intro r
 induction r with
 | zero =>
   intro a b ha hb h
   have h1:=zpN Q ha
   have h2:=zpN Q hb
   have e1:=rt a ha (by omega)
   have e2:=rt b hb (by omega)
   subst e1 e2
   exact ⟨ha,fun y => ⟨fun h => ⟨h,h⟩,fun h => h.1⟩⟩
 | succ r ih =>
   intro a b ha hb h
   have h1:=zpN Q ha
   have h2:=zpN Q hb
   rw [ziD]
   by_cases c : a = b
   ·subst c
    rw [if_pos rfl]
    exact ⟨ha,fun y => ⟨fun h => ⟨h,h⟩,fun h => h.1⟩⟩
   ·rw [if_neg c]
    by_cases d : zE (t.set root (-1)) b ≤ zE (t.set root (-1)) a
    ·rw [if_pos d]
     have hr : a ≠ (root : Int):=by
      rintro rfl
      have e0:=zjZ (t:=t.set root (-1)) (a:=(root : Int)) (by omega) (by rw [zkF Q]; exact zmy Q) (by rw [zoy Q (by omega),if_pos rfl])
      exact c (rt b hb (by omega)).symm
     obtain ⟨k1,k2,k3,k4⟩:=ztC Q ha hr
     have ds:=ze9 h1 (by rw [k1]; exact k4)
     rw [k1] at ds ⊢
     obtain ⟨q1,q2⟩:=ih _ b k2 hb (by omega)
     refine ⟨q1,fun y => ?_⟩
     rw [q2 y]
     constructor
     ·rintro ⟨w1,w2⟩
      exact ⟨.step hr w1,w2⟩
     ·rintro ⟨w1,w2⟩
      refine ⟨(zno w1 ?_).2,w2⟩
      rintro rfl
      rcases (zoe Q w2 hb).2 with e | e
      ·exact c e
      ·omega
    ·rw [if_neg d]
     have hr : b ≠ (root : Int):=by
      rintro rfl
      have e0:=zjZ (t:=t.set root (-1)) (a:=(root : Int)) (by omega) (by rw [zkF Q]; exact zmy Q) (by rw [zoy Q (by omega),if_pos rfl])
      omega
     obtain ⟨k1,k2,k3,k4⟩:=ztC Q hb hr
     have ds:=ze9 h2 (by rw [k1]; exact k4)
     rw [k1] at ds ⊢
     obtain ⟨q1,q2⟩:=ih a _ ha k2 (by omega)
     refine ⟨q1,fun y => ?_⟩
     rw [q2 y]
     constructor
     ·rintro ⟨w1,w2⟩
      exact ⟨w1,.step hr w2⟩
     ·rintro ⟨w1,w2⟩
      refine ⟨w1,(zno w2 ?_).2⟩
      rintro rfl
      rcases (zoe Q w1 ha).2 with e | e
      ·exact c e.symm
      ·omega
theorem zC7 (a b : Int) : inS (t.set root (-1)) [a,b] = true ↔ O a ∧ O b:=by
 unfold inS
 rw [zvX Q]
 have ha:=zAc Q a
 have hb:=zAc Q b
 simp only [yz,List.any_cons,List.any_nil,Bool.or_false,yt,ys,decide_eq_false_iff_not]
 rw [← ha,← hb]
 omega
theorem zvU (a b : Int) : zky (t.set root (-1)) a b = true ↔ O a ∧ O b ∧ Anc (root : Int) (tf t) a b:=by
 unfold zky
 rw [yb,zC7 Q,decide_eq_true_eq]
 constructor
 ·rintro ⟨⟨ha,hb⟩,h⟩
  have hs:=znP Q _ a b ha hb (by have:=zpN Q ha; have:=zpN Q hb; omega : zE (t.set root (-1)) a + zE (t.set root (-1)) b ≤ ((zE (t.set root (-1)) a + zE (t.set root (-1)) b).toNat : Int))
  rw [zwH,if_pos ((zC7 Q a b).2 ⟨ha,hb⟩)] at h
  rw [h] at hs
  exact ⟨ha,hb,((hs.2 a).1 (.refl _)).2⟩
 ·rintro ⟨ha,hb,h⟩
  refine ⟨⟨ha,hb⟩,?_⟩
  have hs:=znP Q _ a b ha hb (by have:=zpN Q ha; have:=zpN Q hb; omega : zE (t.set root (-1)) a + zE (t.set root (-1)) b ≤ ((zE (t.set root (-1)) a + zE (t.set root (-1)) b).toNat : Int))
  rw [zwH,if_pos ((zC7 Q a b).2 ⟨ha,hb⟩)]
  have h1:=(hs.2 a).2 ⟨.refl _,h⟩
  have h2:=((hs.2 _).1 (.refl _)).1
  rcases (zoe Q h1 hs.1).2 with e | e
  ·exact e.symm
  ·rcases (zoe Q h2 ha).2 with e2 | e2
   ·exact e2
   ·omega
theorem zCa (a b : Int) : zky (t.set root (-1)) a b = true ↔ O a ∧ O b ∧ Dom (Eg succ) (root : Int) a b:=by
 rw [zvU Q]
 constructor
 ·rintro ⟨h1,h2,h3⟩
  exact ⟨h1,h2,(zuz Q.ord Q.inv Q.st h2).1 h3⟩
 ·rintro ⟨h1,h2,h3⟩
  exact ⟨h1,h2,(zuz Q.ord Q.inv Q.st h2).2 h3⟩
end
end AC

/- A part of the proof of SchedFlat. Conditions: none. -/
import Derived.Test.YtmkncmffaaninaaGreatFAW
import Derived.Test.YtmkncmffaaninaaGreatFBE
import Derived.Test.YtmkncmffaaninaaGreatFBD
import Derived.Test.YtmkncmffaaninaaGreatFBA
set_option linter.all false
open List renaming length_map → ya,find?_cons → yc,length_append → yd,length_cons → ye,drop_eq_getElem_cons → yg,all_cons → yi,drop_zero → yj,mem_cons_of_mem → yk,all_eq_true → yl,getD_eq_getElem?_getD → ym,mem_cons_self → yn,drop_length → yq,getElem_mem → yr,map_cons → yu,sum_cons → yv,count_cons → yw,find?_nil → yx,mem_cons → yA
open Bool renaming and_eq_true → yb,false_eq_true → yh,or_eq_false_iff → ys,not_eq_true' → yt,true_and → yz,or_true → yB
open Int renaming natCast_zero → yf,toNat_natCast → yo,lt_irrefl → yp
open Nat renaming add_zero → yy
namespace AC
open Go Go.A Go.A.Lex
theorem zxJ (f : PFunc) (hf : okF f) : ∀ (d k : Nat) (a0 a2 a5 : V),f.blocks.length - k = d → k ≤ f.blocks.length →
  exec T zb5 ⟨[a0,.one (.ptr 0 0 0 0),a2,vI ((k + ((f.blocks.map fun b => b.phis.length + b.ops.length).take k).sum : Nat) : Int),vI k,a5],[.cells 0 3 [zc4 f]],0,0⟩ =
   some (.exit 0,⟨[vU,vU,vU,vI (zh8 f : Int),vU,vU],[.cells 0 3 [zc4 f]],0,0⟩):=by
 intro d
 induction d with
 | zero =>
   intro k a0 a2 a5 h g;have a : k = f.blocks.length:=(by omega);subst a;rw [xl zb5 rfl,zdV];have e : (f.blocks.map fun b => b.phis.length + b.ops.length).take f.blocks.length = f.blocks.map fun b => b.phis.length + b.ops.length:=List.take_of_length_le (by simp);simp -implicitDefEqProofs only [go_sem,yp,e,zh8,ya]
 | succ d ih =>
   intro k a0 a2 a5 h g;have a : k < f.blocks.length:=(by omega);have c : k < (f.blocks.map fun b => b.phis.length + b.ops.length).length:=(by simpa using a);have e:=zmz (f.blocks.map fun b => b.phis.length + b.ops.length) k c;have e2:=zpA (f.blocks.map fun b => b.phis.length + b.ops.length) (k + 1);have e3:=hf.small;have e4:=hf.blocks;simp only [List.getElem_map] at e
   have l : Go.IntKind.i64.wrap (((k + ((f.blocks.map fun b => b.phis.length + b.ops.length).take k).sum : Nat) : Int) + (f.blocks[k].phis.length : Int)) = ((k + ((f.blocks.map fun b => b.phis.length + b.ops.length).take k).sum : Nat) : Int) + (f.blocks[k].phis.length : Int):=by
    rw [wrap_i64] <;> omega
   have j : Go.IntKind.i64.wrap (((k + ((f.blocks.map fun b => b.phis.length + b.ops.length).take k).sum : Nat) : Int) + (f.blocks[k].phis.length : Int) + (f.blocks[k].ops.length : Int)) = ((k + ((f.blocks.map fun b => b.phis.length + b.ops.length).take k).sum : Nat) : Int) + (f.blocks[k].phis.length : Int) + (f.blocks[k].ops.length : Int):=by
    rw [wrap_i64] <;> omega
   have i : Go.IntKind.i64.wrap (((k + ((f.blocks.map fun b => b.phis.length + b.ops.length).take k).sum : Nat) : Int) + (f.blocks[k].phis.length : Int) + (f.blocks[k].ops.length : Int) + 1) = ((k + 1 + ((f.blocks.map fun b => b.phis.length + b.ops.length).take (k + 1)).sum : Nat) : Int):=by
    rw [wrap_i64] <;> omega
   have:=ih (k + 1) vU vU vU (by omega) (by omega);rw [xl zb5 rfl,zdV];simp -implicitDefEqProofs only [go_sem] at this;simp -implicitDefEqProofs only [go_sem,ilt a,zm a,rb,l,j,i,za a hf.blocks,ya,this]
theorem zua (f : PFunc) (hf : okF f) : call T 123 [zfZ f] [] = some (vI (zh8 f : Int),[]):=by
 rw [ze (fn:=zeO) rfl];have h:=fun a0 a2 a5 => zxJ f hf f.blocks.length 0 a0 a2 a5 (by omega) (by omega);simp only [List.take_zero,List.sum_nil,yy,yf] at h;simp -implicitDefEqProofs only [go_sem] at h;simp -implicitDefEqProofs only [go_sem,zeO,h]
section
variable (f : PFunc) (hf : okF f)
abbrev st4 (f : PFunc) (b : PBlock) : zd:=[.cells 0 3 [zc4 f],.cells 0 5 [zh b]]
include hf
theorem zx7 (b : PBlock) (m : okB b) (i : Int) : ∀ (d k : Nat) (a0 a2 a6 a7 a8 a9 g j l e c h : V),b.phis.length - k = d → k ≤ b.phis.length →
  exec T zcH ⟨[a0,.one (.ptr 0 0 0 0),a2,vI i,.one (.ptr 1 0 0 0),vI k,a6,a7,a8,a9,g,j,l,e,c,h],st4 f b,0,0⟩ =
   some (match (b.phis.drop k).find? (fun x => !zhC x) with | none => (.exit 2,⟨[vU,.one (.ptr 0 0 0 0),vU,vI i,.one (.ptr 1 0 0 0),vU,vU,vU,vU,vU,vU,vU,vU,vU,vU,vU],st4 f b,0,0⟩) | some x => (.ret,⟨[vU,vU,vB false,vU,vU,vU,vU,vU,vU,vU,vU,vU,vU,vU,vU,vU],st4 f b ++ [.cells 0 4 [zuR x]],0,0⟩)):=by
 intro d
 induction d with
 | zero =>
   intro k a0 a2 a6 a7 a8 a9 g j l e c h p o;have a : k = b.phis.length:=(by omega);subst a;rw [xl zcH rfl,zeG];simp -implicitDefEqProofs only [go_sem,st4,yp,ya,yq,yx]
 | succ d ih =>
   intro k a0 a2 a6 a7 a8 a9 g j l e c h p o;have a : k < b.phis.length:=(by omega);have hd : b.phis.drop k = b.phis[k] :: b.phis.drop (k + 1):=yg a;have n:=m.phi _ (yr a);have c1:=zcA b.phis[k].bits;have c2:=zcA b.phis[k].dst;have c3:=zgc b.phis[k].src n.1;have c4:=zgc b.phis[k].args n.2;have:=ih (k + 1) vU vU vU vU vU vU vU vU vU vU vU vU (by omega) (by omega);rw [xl zcH rfl,zeG,hd];simp -implicitDefEqProofs only [go_sem,st4] at this;cases e1 : num b.phis[k].bits
   ·simp -implicitDefEqProofs only [go_sem,e1] at c1
    simp -implicitDefEqProofs only [go_sem,st4,ilt a,zm a,rp,ya,c1,zhC,yc,e1]
   simp -implicitDefEqProofs only [go_sem,e1] at c1;cases e2 : num b.phis[k].dst
   ·simp -implicitDefEqProofs only [go_sem,e2] at c2
    simp -implicitDefEqProofs only [go_sem,st4,ilt a,zm a,rp,ya,c1,c2,zhC,yc,e1,e2]
   simp -implicitDefEqProofs only [go_sem,e2] at c2;cases e3 : zfV b.phis[k].src
   ·simp -implicitDefEqProofs only [go_sem,e3] at c3
    simp -implicitDefEqProofs only [go_sem,st4,ilt a,zm a,rp,ya,c1,c2,c3,zhC,yc,e1,e2,e3]
   simp -implicitDefEqProofs only [go_sem,e3] at c3;cases e4 : zfV b.phis[k].args
   ·simp -implicitDefEqProofs only [go_sem,e4] at c4
    simp -implicitDefEqProofs only [go_sem,st4,ilt a,zm a,rp,ya,c1,c2,c3,c4,zhC,yc,e1,e2,e3,e4]
   simp -implicitDefEqProofs only [go_sem,e4] at c4;simp -implicitDefEqProofs only [go_sem,st4,ilt a,zm a,rp,ya,c1,c2,c3,c4,zhC,yc,e1,e2,e3,e4,za a m.phis,this]
theorem zy1 (b : PBlock) (m : okB b) (i : Int) : ∀ (d k : Nat) (a0 a2 a5 a6 a8 a9 g j l e c h : V),b.ops.length - k = d → k ≤ b.ops.length →
  exec T zcL ⟨[a0,.one (.ptr 0 0 0 0),a2,vI i,.one (.ptr 1 0 0 0),a5,a6,vI k,a8,a9,g,j,l,e,c,h],st4 f b,0,0⟩ =
   some (match (b.ops.drop k).find? (fun x => !zln x) with | none => (.exit 4,⟨[vU,.one (.ptr 0 0 0 0),vU,vI i,.one (.ptr 1 0 0 0),vU,vU,vU,vU,vU,vU,vU,vU,vU,vU,vU],st4 f b,0,0⟩) | some x => (.ret,⟨[vU,vU,vB false,vU,vU,vU,vU,vU,vU,vU,vU,vU,vU,vU,vU,vU],st4 f b ++ [.cells 0 6 [cOp x]],0,0⟩)):=by
 intro d
 induction d with
 | zero =>
   intro k a0 a2 a5 a6 a8 a9 g j l e c h p n;have a : k = b.ops.length:=(by omega);subst a;rw [xl zcL rfl,zeJ];simp -implicitDefEqProofs only [go_sem,st4,yp,ya,yq,yx]
 | succ d ih =>
   intro k a0 a2 a5 a6 a8 a9 g j l e c h p n;have a : k < b.ops.length:=(by omega);have hd : b.ops.drop k = b.ops[k] :: b.ops.drop (k + 1):=yg a;have o:=m.op _ (yr a);have c1:=zcA b.ops[k].kind;have c2:=zcA b.ops[k].bits;have c3:=zcA b.ops[k].lanes;have c4:=zcA b.ops[k].dst;have c5:=zgc b.ops[k].args o.2;have:=ih (k + 1) vU vU vU vU vU vU vU vU vU vU vU vU (by omega) (by omega);rw [xl zcL rfl,zeJ,hd];simp -implicitDefEqProofs only [go_sem,st4] at this;cases e1 : num b.ops[k].kind
   ·simp -implicitDefEqProofs only [go_sem,e1] at c1
    simp -implicitDefEqProofs only [go_sem,st4,ilt a,zm a,ro,ya,c1,zln,yc,e1]
   simp -implicitDefEqProofs only [go_sem,e1] at c1;cases e2 : num b.ops[k].bits
   ·simp -implicitDefEqProofs only [go_sem,e2] at c2
    simp -implicitDefEqProofs only [go_sem,st4,ilt a,zm a,ro,ya,c1,c2,zln,yc,e1,e2]
   simp -implicitDefEqProofs only [go_sem,e2] at c2;cases e3 : num b.ops[k].lanes
   ·simp -implicitDefEqProofs only [go_sem,e3] at c3
    simp -implicitDefEqProofs only [go_sem,st4,ilt a,zm a,ro,ya,c1,c2,c3,zln,yc,e1,e2,e3]
   simp -implicitDefEqProofs only [go_sem,e3] at c3;cases e4 : num b.ops[k].dst
   ·simp -implicitDefEqProofs only [go_sem,e4] at c4
    simp -implicitDefEqProofs only [go_sem,st4,ilt a,zm a,ro,ya,c1,c2,c3,c4,zln,yc,e1,e2,e3,e4]
   simp -implicitDefEqProofs only [go_sem,e4] at c4;cases e5 : zfV b.ops[k].args
   ·simp -implicitDefEqProofs only [go_sem,e5] at c5
    simp -implicitDefEqProofs only [go_sem,st4,ilt a,zm a,ro,ya,c1,c2,c3,c4,c5,zln,yc,e1,e2,e3,e4,e5]
   simp -implicitDefEqProofs only [go_sem,e5] at c5;simp -implicitDefEqProofs only [go_sem,st4,ilt a,zm a,ro,ya,c1,c2,c3,c4,c5,zln,yc,e1,e2,e3,e4,e5,za a m.ops,this]
theorem zz7 : ∀ (d k : Nat),f.blocks.length - k = d → k ≤ f.blocks.length →
  ∃ r,∀ (a0 a2 a4 a5 a6 a7 a8 a9 c g h b a e : V),exec T zJ ⟨[a0,.one (.ptr 0 0 0 0),a2,vI k,a4,a5,a6,a7,a8,a9,c,g,h,b,a,e],[.cells 0 3 [zc4 f]],0,0⟩ =
    some (if (f.blocks.drop k).all zqX = true then (.exit 0,⟨[vU,vU,vU,vU,vU,vU,vU,vU,vU,vU,vU,vU,vU,vU,vU,vU],[.cells 0 3 [zc4 f]],0,0⟩) else (.ret,⟨[vU,vU,vB false,vU,vU,vU,vU,vU,vU,vU,vU,vU,vU,vU,vU,vU],.cells 0 3 [zc4 f] :: r,0,0⟩)):=by
 intro d
 induction d with
 | zero =>
   intro k s q;have i : k = f.blocks.length:=(by omega);subst i;refine ⟨[],fun a0 a2 a4 a5 a6 a7 a8 a9 c g h b a e => ?_⟩;rw [xl zJ rfl,zR];simp -implicitDefEqProofs only [go_sem,yp,ya,yq,List.all_nil]
 | succ d ih =>
   intro k s q;have i : k < f.blocks.length:=(by omega);have hd : f.blocks.drop k = f.blocks[k] :: f.blocks.drop (k + 1):=yg i;have o:=hf.block _ (yr i);have l:=fun a0 a2 a6 a7 a8 a9 c g h b a e => zx7 f hf f.blocks[k] o k f.blocks[k].phis.length 0 a0 a2 a6 a7 a8 a9 c g h b a e (by omega) (by omega);have j:=fun a0 a2 a5 a6 a8 a9 c g h b a e => zy1 f hf f.blocks[k] o k f.blocks[k].ops.length 0 a0 a2 a5 a6 a8 a9 c g h b a e (by omega) (by omega);have c1:=zcA f.blocks[k].kind;have c2:=zcA f.blocks[k].arg;have c3:=zgc f.blocks[k].to o.to;simp only [yj,yf] at l j;obtain ⟨r,p⟩:=ih (k + 1) (by omega) (by omega);simp -implicitDefEqProofs only [go_sem] at p
   cases e1 : f.blocks[k].phis.find? (fun x => !zhC x) with
   | some x =>
     have m:=zeY e1;simp -implicitDefEqProofs only [go_sem,st4,e1] at l;refine ⟨[.cells 0 5 [zh f.blocks[k]],.cells 0 4 [zuR x]],fun a0 a2 a4 a5 a6 a7 a8 a9 c g h b a e => ?_⟩;rw [xl zJ rfl,zR,hd,yi];simp -implicitDefEqProofs only [go_sem,ilt i,zm i,rb,ya,l,zqX,m]
   | none =>
   have m:=ze4 e1;simp -implicitDefEqProofs only [go_sem,st4,e1] at l
   cases e2 : f.blocks[k].ops.find? (fun x => !zln x) with
   | some x =>
     have n:=zeY e2;simp -implicitDefEqProofs only [go_sem,st4,e2] at j;refine ⟨[.cells 0 5 [zh f.blocks[k]],.cells 0 6 [cOp x]],fun a0 a2 a4 a5 a6 a7 a8 a9 c g h b a e => ?_⟩;rw [xl zJ rfl,zR,hd,yi];simp -implicitDefEqProofs only [go_sem,ilt i,zm i,rb,ya,l,j,zqX,m,n]
   | none =>
   have n:=ze4 e2;simp -implicitDefEqProofs only [go_sem,st4,e2] at j;cases e3 : num f.blocks[k].kind
   ·simp -implicitDefEqProofs only [go_sem,e3] at c1
    refine ⟨[.cells 0 5 [zh f.blocks[k]]],fun a0 a2 a4 a5 a6 a7 a8 a9 c g h b a e => ?_⟩;rw [xl zJ rfl,zR,hd,yi];simp -implicitDefEqProofs only [go_sem,ilt i,zm i,rb,ya,l,j,c1,zqX,zpq,m,n,e3]
   simp -implicitDefEqProofs only [go_sem,e3] at c1;cases e4 : num f.blocks[k].arg
   ·simp -implicitDefEqProofs only [go_sem,e4] at c2
    refine ⟨[.cells 0 5 [zh f.blocks[k]]],fun a0 a2 a4 a5 a6 a7 a8 a9 c g h b a e => ?_⟩;rw [xl zJ rfl,zR,hd,yi];simp -implicitDefEqProofs only [go_sem,ilt i,zm i,rb,ya,l,j,c1,c2,zqX,zpq,m,n,e3,e4]
   simp -implicitDefEqProofs only [go_sem,e4] at c2;cases e5 : zfV f.blocks[k].to
   ·simp -implicitDefEqProofs only [go_sem,e5] at c3
    refine ⟨[.cells 0 5 [zh f.blocks[k]]],fun a0 a2 a4 a5 a6 a7 a8 a9 c g h b a e => ?_⟩;rw [xl zJ rfl,zR,hd,yi];simp -implicitDefEqProofs only [go_sem,ilt i,zm i,rb,ya,l,j,c1,c2,c3,zqX,zpq,m,n,e3,e4,e5]
   simp -implicitDefEqProofs only [go_sem,e5] at c3;refine ⟨r,fun a0 a2 a4 a5 a6 a7 a8 a9 c g h b a e => ?_⟩;rw [xl zJ rfl,zR,hd,yi];simp -implicitDefEqProofs only [go_sem,ilt i,zm i,rb,ya,l,j,c1,c2,c3,zqX,zpq,m,n,e3,e4,e5,za i hf.blocks,p]
end
theorem zt0 {l : List Int} (h : l.length ≤ 64) : zfV l = l.all num:=by
 unfold zfV;rw [decide_eq_true h,yz]
theorem zvd (f : PFunc) (hf : okF f) : call T 70 [zfZ f] [] = some (vB (zlU f),[]):=by
 rw [ze (fn:=zG) rfl];have i:=zua f hf;have g:=zcA f.ret;have e:=zgc f.params hf.params;simp -implicitDefEqProofs only [go_sem] at i g e
 by_cases c1 : f.blocks.length < 1
 ·have a : (f.blocks.length : Int) = 0:=by omega
  simp -implicitDefEqProofs only [go_sem,zG,zlU,c1,eq_true a,ya]
 have a : ¬ (f.blocks.length : Int) = 0:=by omega
 by_cases c2 : 64 < f.blocks.length
 ·have b : (f.blocks.length : Int) > 64:=by omega
  simp -implicitDefEqProofs only [go_sem,zG,zlU,c1,a,c2,eq_true b,ya]
 have b : ¬ (f.blocks.length : Int) > 64:=by omega
 by_cases c3 : 16 < f.params.length
 ·have c : (f.params.length : Int) > 16:=by omega
  simp -implicitDefEqProofs only [go_sem,zG,zlU,c1,a,c2,b,c3,eq_true c,ya]
 have c : ¬ (f.params.length : Int) > 16:=by omega
 rw [zt0 (by omega)] at e;cases c6 : f.params.all num
 ·simp -implicitDefEqProofs only [go_sem,c6] at e
  simp -implicitDefEqProofs only [go_sem,zG,zlU,c1,a,c2,b,c3,c,e,c6,ya,yB]
 simp -implicitDefEqProofs only [go_sem,c6] at e;cases c5 : num f.ret
 ·simp -implicitDefEqProofs only [go_sem,c5] at g
  simp -implicitDefEqProofs only [go_sem,zG,zlU,c1,a,c2,b,c3,c,e,g,c6,c5,ya,yB]
 simp -implicitDefEqProofs only [go_sem,c5] at g
 by_cases c4 : 512 < zh8 f
 ·have d : (zh8 f : Int) > 512:=by omega
  simp -implicitDefEqProofs only [go_sem,zG,zlU,c1,a,c2,b,c3,c,i,c4,eq_true d,e,g,c6,c5,ya]
 have d : ¬ (zh8 f : Int) > 512:=by omega
 obtain ⟨r,h⟩:=zz7 f hf f.blocks.length 0 (by omega) (by omega);simp only [yj,yf] at h;cases c7 : f.blocks.all zqX
 ·simp -implicitDefEqProofs only [go_sem,c7] at h
  simp -implicitDefEqProofs only [go_sem,zG,zlU,c1,a,c2,b,c3,c,i,c4,d,e,g,c6,c5,c7,h,ya]
 ·simp -implicitDefEqProofs only [go_sem,c7] at h
  simp -implicitDefEqProofs only [go_sem,zG,zlU,c1,a,c2,b,c3,c,i,c4,d,e,g,c6,c5,c7,h,ya]
theorem zic {f : PFunc} (h : zlU f = true) : 1 ≤ f.blocks.length ∧ f.blocks.length ≤ 64 ∧ f.params.length ≤ 16 ∧ zh8 f ≤ 512 ∧ ∀ b ∈ f.blocks,zqX b = true:=by
 unfold zlU at h;simp only [yb,yt,ys,decide_eq_false_iff_not,yl] at h;exact ⟨by omega,by omega,by omega,by omega,h.2⟩
theorem zsY {l : List Int} (h : zfV l = true) : l.length ≤ 64:=by
 unfold zfV at h;simp only [yb,decide_eq_true_eq] at h;exact h.1
theorem zqO {b : PBlock} (h : zqX b = true) : (∀ p ∈ b.phis,p.args.length ≤ 64) ∧ ∀ o ∈ b.ops,o.args.length ≤ 64:=by
 unfold zqX at h;simp only [yb,yl] at h;refine ⟨fun p c => ?_,fun o a => ?_⟩
 ·have:=h.1 p c
  unfold zhC at this;simp only [yb] at this;exact zsY this.2.2
 ·have:=h.2.1 o a
  unfold zln at this;simp only [yb] at this;exact zsY this.2
theorem zoI : ∀ (l : List PPhi),(∀ p ∈ l,p.args.length ≤ 64) → (zam l).length ≤ 64 * l.length
 | [],_ => by simp [zam]
 | p :: l,h => by
   have b:=zoI l fun q c => h q (yk _ c);have d:=h p yn
   have a : ∀ (l : List Int) (j : Nat),(zF p j l).length = l.length:=by
    intro l
    induction l with
    | nil => intro j; rfl
    | cons x l b => intro j; rw [zF,ye,b,ye]
   have e : zam (p :: l) = zfQ p ++ zam l:=rfl;have e2 : (zfQ p).length = p.args.length:=a _ 0;rw [e,yd,e2,ye];omega
theorem zk6 (o : POp) (i a : Int) : ∀ (l : List (Int × Int)) (k : Nat),(zQ o i a k l).length = l.length
 | [],_ => rfl
 | s :: r,k => by rw [zQ,ye,zk6 o i a r,ye]
theorem zrj (i : Int) : ∀ (l : List POp) (k : Nat),(∀ o ∈ l,o.args.length ≤ 64) → (zu i k l).length ≤ 64 * l.length
 | [],_,_ => by simp [zu]
 | o :: l,k,h => by
   have c:=zrj i l (k + 1) fun q a => h q (yk _ a);have b:=h o yn;have d:=znf o;have e2 : (zk0 o i (k : Int)).length = (zaY o).length:=zk6 _ _ _ _ _;rw [zu,yd,e2,ye];omega
theorem zpY (f : PFunc) : ∀ (l : List PBlock) (k : Nat),(∀ b ∈ l,zqX b = true) → (zaC f k l).length ≤ 64 * (l.map fun b => b.phis.length + b.ops.length).sum + l.length
 | [],_,_ => by simp [zaC]
 | b :: l,k,h => by
   have e:=zpY f l (k + 1) fun q c => h q (yk _ c);obtain ⟨a,d⟩:=zqO (h b yn);have e1:=zoI b.phis a;have e2:=zrj (k : Int) b.ops 0 d
   have e3 : (zbp f k b).length ≤ 1:=by
    unfold zbp;split <;> simp
   rw [zaC,zg2,yd,yd,yd,yu,yv,ye];omega
theorem zBX {f : PFunc} (h : zlU f = true) : (zfe f).length ≤ 40000:=by
 obtain ⟨c,e,d,b,a⟩:=zic h;have:=zpY f f.blocks 0 a;unfold zh8 at b;unfold zfe;omega
theorem zBa {f : PFunc} (h : zlU f = true) : (zL f).length ≤ 600:=by
 obtain ⟨c,g,e,a,d⟩:=zic h
 have key : ∀ (l : List PBlock) (k : Nat),(zX k l).length ≤ (l.map fun b => b.phis.length + b.ops.length).sum:=by
  intro l
  induction l with
  | nil => intro k; simp [zX]
  | cons b l ih =>
    intro k;have:=ziK (k : Int) b.ops 0;have:=ih (k + 1);rw [zX,yd,yd,yu,yv];simp only [zcZ,ya];omega
 have:=key f.blocks 0;unfold zh8 at a;rw [zL,yd,zgl];omega
theorem zlb (pred : List (List Int)) (reach : List Bool) : ∀ (l : List PBlock) (i : Nat),zbo pred reach i l = true → ∀ b ∈ l,∃ j,zjK pred reach j b = true
 | [],_,_ => by simp
 | b :: l,i,h => by
   rw [zbo,yb] at h;intro c a;rcases yA.1 a with rfl | a
   ·exact ⟨i,h.1⟩
   ·exact zlb pred reach l (i + 1) h.2 c a
theorem zCu {f : PFunc} (h : zgb f = true) : ∀ b ∈ f.blocks,zjJ b:=fun b c => by
 unfold zgb at h;rw [yb] at h;obtain ⟨j,a⟩:=zlb _ _ _ _ h.2 b c;unfold zjK at a;simp only [yb,yl] at a;refine ⟨fun p d => ?_,fun o _ => znf o⟩;have:=a.2.2 p d;unfold zhU at this;simp only [yb,decide_eq_true_eq] at this;exact this.2
def ze2 (f : PFunc) : List Use:=(zfe f).map zY
def zac (f : PFunc) (level : Int) : Int :=
 if level < 0 ∨ 2 < level then 1 else if zlU f = false then 4 else if zgb f = false then 5 else if zfu f level = false then 6 else
 if zfG (zL f) 0 (zL f) = false then 7 else if (ze2 f).all (zjS (zL f)) = false then 7 else if (ze2 f).all (sameShape (zL f)) = false then 6 else
 if (ze2 f).all (zgq (zL f) (zeU (zp f) 0)) = false then 7 else 0
theorem zEA {f : PFunc} {level : Int} (h : zfu f level = true) : ¬ f.ret = 0:=by
 unfold zfu at h;rw [yb] at h;have:=zcU h.1;omega
set_option maxRecDepth 10000 in
theorem zr8 (f : PFunc) (d : okF f) (level : Int) : call T 30 [zfZ f,vI level] [] = some (vI (zac f level),[]):=by
 rw [ze (fn:=zk) rfl]
 by_cases c1 : level < 0
 ·have e : zac f level = 1:=by unfold zac; rw [if_pos (.inl c1)]
  rw [e];simp -implicitDefEqProofs only [go_sem,zk,eq_true c1]
 by_cases c2 : 2 < level
 ·have e : zac f level = 1:=by unfold zac; rw [if_pos (.inr c2)]
  have c : level > 2:=c2;rw [e];simp -implicitDefEqProofs only [go_sem,zk,c1,eq_true c]
 have c : ¬ level > 2:=c2;have Q : level = 0 ∨ level = 1 ∨ level = 2:=by omega
 have z:=zvd f d;cases m : zlU f
 ·have e : zac f level = 4:=by unfold zac; rw [if_neg (by omega),if_pos m]
  simp -implicitDefEqProofs only [go_sem,m] at z;rw [e];simp -implicitDefEqProofs only [go_sem,zk,c1,c,z]
 simp -implicitDefEqProofs only [go_sem,m] at z;have A:=zsx f d;cases s : zgb f
 ·have e : zac f level = 5:=by unfold zac; rw [if_neg (by omega),if_neg (by simp [m]),if_pos s]
  simp -implicitDefEqProofs only [go_sem,s] at A;rw [e];simp -implicitDefEqProofs only [go_sem,zk,c1,c,z,A]
 simp -implicitDefEqProofs only [go_sem,s] at A;have E:=zsE f d level Q;cases t : zfu f level
 ·have e : zac f level = 6:=by unfold zac; rw [if_neg (by omega),if_neg (by simp [m]),if_neg (by simp [s]),if_pos t]
  simp -implicitDefEqProofs only [go_sem,t] at E;rw [e];simp -implicitDefEqProofs only [go_sem,zk,c1,c,z,A,E]
 simp -implicitDefEqProofs only [go_sem,t] at E;obtain ⟨n1,n64,np,L,Z⟩:=zic m;have Y:=zBa m;have U:=zBX m;have K:=zug f d (by unfold zh8 at L; omega)
 have N : ∀ b ∈ f.blocks,b.ops.length ≤ 1048576:=fun b V => by
  have D : b.phis.length + b.ops.length ≤ (f.blocks.map fun b => b.phis.length + b.ops.length).sum:=by
   have key : ∀ l : List PBlock,b ∈ l → b.phis.length + b.ops.length ≤ (l.map fun b => b.phis.length + b.ops.length).sum:=by
    intro l
    induction l with
    | nil => intro h; cases h
    | cons a l ih =>
      intro h;simp only [yu,yv];rcases yA.1 h with rfl | h
      ·omega
      ·have:=ih h; omega
   exact key _ V
  unfold zh8 at L;omega
 have I:=zuc f d (zEA t) (zCu s) N (by omega);have G : (ze2 f).length ≤ 4294967296:=by unfold ze2; rw [ya]; omega
 have P : (zfe f).map zY = ze2 f:=rfl;rw [P] at I;have C:=fun a0 a1 a3 a6 a7 a8 a9 k p q i g n j v w o a20 y a22 a23 a24 a25 a26 => zxK f d (zL f) (by omega) (zL f).length 0 a0 a1 a3 a6 a7 a8 a9 k p q i g n j v w o a20 y a22 a23 a24 a25 a26 (by omega) (by omega);have D:=fun a0 a1 a3 a5 a8 a9 k p q i g n j v w o a20 y a22 a23 a24 a25 a26 => zxL f d (zL f) (ze2 f) (by omega) G (ze2 f).length 0 a0 a1 a3 a5 a8 a9 k p q i g n j v w o a20 y a22 a23 a24 a25 a26 (by omega) (by omega);simp only [yf,yj] at C D;simp -implicitDefEqProofs only [go_sem] at K I
 have W : ∀ x,(if level < 0 ∨ 2 < level then (1 : Int) else if zlU f = false then 4 else if zgb f = false then 5 else if zfu f level = false then 6 else x) = x:=fun x => by
  rw [if_neg (by omega),if_neg (by simp [m]),if_neg (by simp [s]),if_neg (by simp [t])]
 have e0 : zac f level = (if zfG (zL f) 0 (zL f) = false then 7 else if (ze2 f).all (zjS (zL f)) = false then 7 else if (ze2 f).all (sameShape (zL f)) = false then 6 else
  if (ze2 f).all (zgq (zL f) (zeU (zp f) 0)) = false then 7 else 0):=by unfold zac; exact W _
 rw [e0];cases d0 : zfG (zL f) 0 (zL f)
 ·simp -implicitDefEqProofs only [go_sem,zif,d0,yh] at C
  simp -implicitDefEqProofs only [go_sem,zk,c1,c,z,A,E,K,C]
 simp -implicitDefEqProofs only [go_sem,zif,d0] at C;cases d1 : (ze2 f).all (zjS (zL f))
 ·simp -implicitDefEqProofs only [go_sem,zif,d1,yh] at D
  simp -implicitDefEqProofs only [go_sem,zk,c1,c,z,A,E,K,C,I,D]
 simp -implicitDefEqProofs only [go_sem,zif,d1] at D;have B : ∀ u ∈ ze2 f,zjS (zL f) u = true:=yl.1 d1;have J:=fun a0 a1 a3 a5 a7 a9 k p q i g n j v w o a20 y a22 a23 a24 a25 a26 => zwF f d (zL f) (ze2 f) (by omega) G B (ze2 f).length 0 a0 a1 a3 a5 a7 a9 k p q i g n j v w o a20 y a22 a23 a24 a25 a26 (by omega) (by omega);simp only [yf,yj] at J;cases d2 : (ze2 f).all (sameShape (zL f))
 ·simp -implicitDefEqProofs only [go_sem,zif,d2,yh] at J
  simp -implicitDefEqProofs only [go_sem,zk,c1,c,z,A,E,K,C,I,D,J]
 simp -implicitDefEqProofs only [go_sem,zif,d2] at J
 have S : zay f = true:=by
  unfold zgb at s;rw [yb] at s;exact s.1
 have hm:=zfo S;have X : (zp f).length = f.blocks.length:=by simp [zp]
 have R:=zro f d;have H:=ztL (zp f) (zin d) hm 0 (by omega);have O : (zeU (zp f) 0).length ≤ 4294967296:=by simp [zeU]; omega
 obtain ⟨r,M⟩:=zws f d (zL f) (ze2 f) (by omega) G B (zeU (zp f) 0) O (.sl ((zp f).map rl)) (.sl ((zN (zp f)).map rl)) (ze2 f).length 0 (by omega) (by omega);simp only [yf,yj] at M;simp -implicitDefEqProofs only [go_sem,zgy,S] at R;simp -implicitDefEqProofs only [go_sem] at H;cases d3 : (ze2 f).all (zgq (zL f) (zeU (zp f) 0))
 ·simp -implicitDefEqProofs only [go_sem,zif,d3,yh] at M
  simp -implicitDefEqProofs only [go_sem,zk,c1,c,z,A,E,K,C,I,D,J,R,H,M]
 ·simp -implicitDefEqProofs only [go_sem,zif,d3] at M
  simp -implicitDefEqProofs only [go_sem,zk,c1,c,z,A,E,K,C,I,D,J,R,H,M]
end AC
namespace AC
open Dm
section
variable {succ : List (List Int)} {root : Nat} {O : Int → Prop} {pos : Int → Nat} {t : List Int} (Q : TreeOf succ root O pos t)
include Q
theorem zng : (root : Int) < (succ.length : Int):=(Q.rng _ Q.ord.rt).2
theorem zpe {x : Int} (a : 0 ≤ x) : tr (t.set root (-1)) x = if x = (root : Int) then -1 else tr t x:=by
 have:=zwe (t:=t) (x:=(root : Int)) (-1) ⟨by omega,by rw [Q.len]; exact zng Q⟩ a
 rwa [yo] at this
theorem zGn {x : Int} (h : O x) : tf t x ≠ -2:=zDG Q.ord Q.inv Q.st h
theorem zty {x : Int} (h : O x) (b : x ≠ (root : Int)) : tr (t.set root (-1)) x = tf t x ∧ O (tf t x) ∧ pos (tf t x) < pos x ∧ tf t x ≠ -1:=by
 have rx:=Q.rng x h;obtain ⟨c,d⟩:=Q.inv.par x b (zGn Q h);have a:=zjn Q.ord Q.inv c;exact ⟨by rw [zpe Q rx.1,if_neg b,zuw rx.1],a,d,by have:=(Q.rng _ a).1; omega⟩
theorem zyy {x : Int} (h : ¬ O x) (h0 : 0 ≤ x) : tr (t.set root (-1)) x = -2:=by
 rw [zpe Q h0,if_neg (by rintro rfl; exact h Q.ord.rt),← zuw h0];exact Q.inv.out x h
theorem zk7 : (t.set root (-1)).length = succ.length:=by simp [Q.len]
theorem zGd : ∀ (r : Nat) (x k : Int),O x → pos x < r → ∃ m,zZ (t.set root (-1)) r k x = some m ∧ k ≤ m:=by
 intro r
 induction r with
 | zero => intro x k _ h; omega
 | succ r ih =>
   intro x k a g;have rx:=Q.rng x a;rw [zZ,if_neg (by omega),if_neg (by rw [zk7 Q]; omega)]
   by_cases c : x = (root : Int)
   ·rw [if_pos (by rw [zpe Q rx.1,if_pos c])]
    exact ⟨k,rfl,Int.le_refl _⟩
   ·obtain ⟨b,e,f,d⟩:=zty Q a c
    rw [b,if_neg d];obtain ⟨m,m1,m2⟩:=ih _ (k + 1) e (by omega);exact ⟨m,m1,by omega⟩
theorem zqd {x : Int} (h : O x) : 0 ≤ zD (t.set root (-1)) x:=by
 obtain ⟨m,a,b⟩:=zGd Q (t.set root (-1)).length x 0 h (by rw [zk7 Q]; exact Q.low x h);rw [zD,a];exact b
theorem zEn {x : Int} (h : ¬ O x) : zD (t.set root (-1)) x < 0:=by
 by_cases c : 0 ≤ zD (t.set root (-1)) x
 ·have r:=zg1 c
  have e:=zyy Q h r.1
  by_cases z : zD (t.set root (-1)) x = 0
  ·have:=zgV z
   omega
  ·have:=zfi c (by omega)
   rw [e] at this;have b:=zg1 (t:=t.set root (-1)) (a:=-2) (by omega);omega
 ·omega
theorem zAu (x : Int) : 0 ≤ zD (t.set root (-1)) x ↔ O x:=by
 by_cases h : O x
 ·exact ⟨fun _ => h,fun _ => zqd Q h⟩
 ·exact ⟨fun c => absurd c (by have:=zEn Q h; omega),fun c => absurd c h⟩
omit Q in
theorem znG {tree : List Int} : ∀ (l : List Int) (k m : Nat),(∀ j x,l[j]? = some x → x ≠ -2 → 0 ≤ zD tree ((k + j : Nat) : Int)) → zaF tree k m l = some (m + l.count (-1))
 | [],_,_,_ => by simp [zaF]
 | x :: l,k,m,h => by
   have hr:=fun m' => znG l (k + 1) m' fun j y hj hy => by
    have:=h (j + 1) y (by simpa using hj) hy
    rwa [show k + (j + 1) = k + 1 + j by omega] at this
   rw [zaF]
   by_cases c : x = -2
   ·rw [if_pos c,hr m,c]
    rw [yw];simp
   ·have h0:=h 0 x rfl c
    rw [yy] at h0;rw [if_neg c,if_neg (by omega),hr _,yw]
    by_cases d : x = -1
    ·rw [if_pos d]
     simp [d];omega
    ·rw [if_neg d]
     simp [d]
theorem zwm : zgz (t.set root (-1)) = true:=by
 have h:=znG (tree:=t.set root (-1)) (t.set root (-1)) 0 0 fun j x hj d => by
  rw [Nat.zero_add,zAu Q]
  by_cases c : O (j : Int)
  ·exact c
  ·have:=zyy Q c (by omega)
   unfold tr at this;rw [yo,ym,hj] at this;exact absurd this d
 have a : root < t.length:=by have:=zng Q; rw [Q.len]; omega
 have h0 : t.count (-1) = 0:=by
  rw [List.count_eq_zero];intro hm;obtain ⟨j,hj⟩:=List.mem_iff_getElem?.1 hm
  have e : tf t (j : Int) = -1:=by
   rw [zuw (by omega)];unfold tr;rw [yo,ym,hj];rfl
  have f : tf t (j : Int) ≠ -2:=by rw [e]; omega
  by_cases c : (j : Int) = (root : Int)
  ·rw [c,Q.inv.rt] at e
   omega
  ·exact (zty Q (zjn Q.ord Q.inv f) c).2.2.2 e
 have b : (t.set root (-1)).count (-1) = 1:=by
  rw [List.count_set a,h0];simp
 unfold zgz;rw [h,b];rfl
theorem zoz {y x : Int} (h : Anc (root : Int) (tf t) y x) (b : O x) : O y ∧ (y = x ∨ zD (t.set root (-1)) y < zD (t.set root (-1)) x):=by
 induction h with
 | refl => exact ⟨b,.inl rfl⟩
 | step n h ih =>
   rename_i x;obtain ⟨c,e,g,d⟩:=zty Q b n;obtain ⟨f,a⟩:=ih e;have:=zfi (zqd Q b) (by rw [c]; exact d);rw [c] at this;refine ⟨f,.inr ?_⟩;rcases a with a | a
   ·rw [a]; omega
   ·omega
theorem znY : ∀ (r : Nat) (a b : Int),O a → O b → zD (t.set root (-1)) a + zD (t.set root (-1)) b ≤ r → O (ziz (t.set root (-1)) r a b) ∧ ∀ y,Anc (root : Int) (tf t) y (ziz (t.set root (-1)) r a b) ↔ Anc (root : Int) (tf t) y a ∧ Anc (root : Int) (tf t) y b:=by
 have rt : ∀ a,O a → zD (t.set root (-1)) a = 0 → a = (root : Int):=fun a f h => by
  by_cases c : a = (root : Int)
  ·exact c
  ·obtain ⟨l,_,_,s⟩:=zty Q f c
   rw [zgV h] at l;exact absurd l.symm s
 intro r
 induction r with
 | zero =>
   intro a b f g h;have l:=zqd Q f;have q:=zqd Q g;have e1:=rt a f (by omega);have e2:=rt b g (by omega);subst e1 e2;exact ⟨f,fun y => ⟨fun h => ⟨h,h⟩,fun h => h.1⟩⟩
 | succ r ih =>
   intro a b f g h;have l:=zqd Q f;have q:=zqd Q g;rw [ziz]
   by_cases c : a = b
   ·subst c
    rw [if_pos rfl];exact ⟨f,fun y => ⟨fun h => ⟨h,h⟩,fun h => h.1⟩⟩
   ·rw [if_neg c]
    by_cases d : zD (t.set root (-1)) b ≤ zD (t.set root (-1)) a
    ·rw [if_pos d]
     have hr : a ≠ (root : Int):=by
      rintro rfl;have e0:=zkw (t:=t.set root (-1)) (a:=(root : Int)) (by omega) (by rw [zk7 Q]; exact zng Q) (by rw [zpe Q (by omega),if_pos rfl]);exact c (rt b g (by omega)).symm
     obtain ⟨k,o,u,m⟩:=zty Q f hr;have ds:=zfi l (by rw [k]; exact m);rw [k] at ds ⊢;obtain ⟨p,n⟩:=ih _ b o g (by omega);refine ⟨p,fun y => ?_⟩;rw [n y];constructor
     ·rintro ⟨j,i⟩
      exact ⟨.step hr j,i⟩
     ·rintro ⟨j,i⟩
      refine ⟨(znH j ?_).2,i⟩;rintro rfl;rcases (zoz Q i g).2 with e | e
      ·exact c e
      ·omega
    ·rw [if_neg d]
     have hr : b ≠ (root : Int):=by
      rintro rfl;have e0:=zkw (t:=t.set root (-1)) (a:=(root : Int)) (by omega) (by rw [zk7 Q]; exact zng Q) (by rw [zpe Q (by omega),if_pos rfl]);omega
     obtain ⟨k,o,u,m⟩:=zty Q g hr;have ds:=zfi q (by rw [k]; exact m);rw [k] at ds ⊢;obtain ⟨p,n⟩:=ih a _ f o (by omega);refine ⟨p,fun y => ?_⟩;rw [n y];constructor
     ·rintro ⟨j,i⟩
      exact ⟨j,.step hr i⟩
     ·rintro ⟨j,i⟩
      refine ⟨j,(znH i ?_).2⟩;rintro rfl;rcases (zoz Q j f).2 with e | e
      ·exact c e.symm
      ·omega
theorem zDJ (a b : Int) : inS (t.set root (-1)) [a,b] = true ↔ O a ∧ O b:=by
 unfold inS;rw [zwm Q];have d:=zAu Q a;have c:=zAu Q b;simp only [yz,List.any_cons,List.any_nil,Bool.or_false,yt,ys,decide_eq_false_iff_not];rw [← d,← c];omega
theorem zvy (a b : Int) : zkR (t.set root (-1)) a b = true ↔ O a ∧ O b ∧ Anc (root : Int) (tf t) a b:=by
 unfold zkR;rw [yb,zDJ Q,decide_eq_true_eq];constructor
 ·rintro ⟨⟨c,d⟩,h⟩
  have f:=znY Q _ a b c d (by have:=zqd Q c; have:=zqd Q d; omega : zD (t.set root (-1)) a + zD (t.set root (-1)) b ≤ ((zD (t.set root (-1)) a + zD (t.set root (-1)) b).toNat : Int));rw [zxE,if_pos ((zDJ Q a b).2 ⟨c,d⟩)] at h;rw [h] at f;exact ⟨c,d,((f.2 a).1 (.refl _)).2⟩
 ·rintro ⟨c,d,h⟩
  refine ⟨⟨c,d⟩,?_⟩;have f:=znY Q _ a b c d (by have:=zqd Q c; have:=zqd Q d; omega : zD (t.set root (-1)) a + zD (t.set root (-1)) b ≤ ((zD (t.set root (-1)) a + zD (t.set root (-1)) b).toNat : Int));rw [zxE,if_pos ((zDJ Q a b).2 ⟨c,d⟩)];have g:=(f.2 a).2 ⟨.refl _,h⟩;have i:=((f.2 _).1 (.refl _)).1;rcases (zoz Q g f.1).2 with e | e
  ·exact e.symm
  ·rcases (zoz Q i c).2 with e2 | e2
   ·exact e2
   ·omega
theorem zBT (a b : Int) : zkR (t.set root (-1)) a b = true ↔ O a ∧ O b ∧ Dom (Eg succ) (root : Int) a b:=by
 rw [zvy Q];constructor
 ·rintro ⟨d,c,e⟩
  exact ⟨d,c,(zvb Q.ord Q.inv Q.st c).1 e⟩
 ·rintro ⟨d,c,e⟩
  exact ⟨d,c,(zvb Q.ord Q.inv Q.st c).2 e⟩
end
end AC

/- A part of the proof of AffineFinds. Conditions: none. -/
import Derived.Test.YtmkncmffaaninaaGreatXAW
import Derived.Test.YtmkncmffaaninaaGreatXBE
import Derived.Test.YtmkncmffaaninaaGreatXBD
import Derived.Test.YtmkncmffaaninaaGreatXBA
set_option linter.all false
open List renaming length_map → ya,find?_cons → yc,length_append → yd,length_cons → ye,drop_eq_getElem_cons → yg,all_cons → yi,drop_zero → yj,mem_cons_of_mem → yk,all_eq_true → yl,getD_eq_getElem?_getD → ym,mem_cons_self → yn,drop_length → yq,getElem_mem → yr,map_cons → yu,sum_cons → yv,count_cons → yw,find?_nil → yx,mem_cons → yA
open Bool renaming and_eq_true → yb,false_eq_true → yh,or_eq_false_iff → ys,not_eq_true' → yt,true_and → yz,or_true → yB
open Int renaming natCast_zero → yf,toNat_natCast → yo,lt_irrefl → yp
open Nat renaming add_zero → yy
namespace AC
open Go Go.A Go.A.Lex
theorem zzm (f : PFunc) (hf : okF f) : ∀ (d k : Nat) (a0 a2 a5 : V),f.blocks.length - k = d → k ≤ f.blocks.length →
  exec T zcV ⟨[a0,.one (.ptr 0 0 0 0),a2,vI ((k + ((f.blocks.map fun b => b.phis.length + b.ops.length).take k).sum : Nat) : Int),vI k,a5],[.cells 0 3 [zcz f]],0,0⟩ =
   some (.exit 0,⟨[vU,vU,vU,vI (zh5 f : Int),vU,vU],[.cells 0 3 [zcz f]],0,0⟩):=by
 intro d
 induction d with
 | zero =>
   intro k a0 a2 a5 j l;have a : k = f.blocks.length:=(by omega);subst a;rw [xl zcV rfl,zeE];have e : (f.blocks.map fun b => b.phis.length + b.ops.length).take f.blocks.length = f.blocks.map fun b => b.phis.length + b.ops.length:=List.take_of_length_le (by simp);simp -implicitDefEqProofs only [go_sem,yp,e,zh5,ya]
 | succ d ih =>
   intro k a0 a2 a5 j l;have a : k < f.blocks.length:=(by omega);have c : k < (f.blocks.map fun b => b.phis.length + b.ops.length).length:=(by simpa using a);have e:=znu (f.blocks.map fun b => b.phis.length + b.ops.length) k c;have e2:=zqH (f.blocks.map fun b => b.phis.length + b.ops.length) (k + 1);have e3:=hf.small;have e4:=hf.blocks;simp only [List.getElem_map] at e
   have h : Go.IntKind.i64.wrap (((k + ((f.blocks.map fun b => b.phis.length + b.ops.length).take k).sum : Nat) : Int) + (f.blocks[k].phis.length : Int)) = ((k + ((f.blocks.map fun b => b.phis.length + b.ops.length).take k).sum : Nat) : Int) + (f.blocks[k].phis.length : Int):=by
    rw [wrap_i64] <;> omega
   have g : Go.IntKind.i64.wrap (((k + ((f.blocks.map fun b => b.phis.length + b.ops.length).take k).sum : Nat) : Int) + (f.blocks[k].phis.length : Int) + (f.blocks[k].ops.length : Int)) = ((k + ((f.blocks.map fun b => b.phis.length + b.ops.length).take k).sum : Nat) : Int) + (f.blocks[k].phis.length : Int) + (f.blocks[k].ops.length : Int):=by
    rw [wrap_i64] <;> omega
   have i : Go.IntKind.i64.wrap (((k + ((f.blocks.map fun b => b.phis.length + b.ops.length).take k).sum : Nat) : Int) + (f.blocks[k].phis.length : Int) + (f.blocks[k].ops.length : Int) + 1) = ((k + 1 + ((f.blocks.map fun b => b.phis.length + b.ops.length).take (k + 1)).sum : Nat) : Int):=by
    rw [wrap_i64] <;> omega
   have:=ih (k + 1) vU vU vU (by omega) (by omega);rw [xl zcV rfl,zeE];simp -implicitDefEqProofs only [go_sem] at this;simp -implicitDefEqProofs only [go_sem,ilt a,zy a,rb,h,g,i,za a hf.blocks,ya,this]
theorem zue (f : PFunc) (hf : okF f) : call T 123 [zfg f] [] = some (vI (zh5 f : Int),[]):=by
 rw [ze (fn:=zfd) rfl];have h:=fun a0 a2 a5 => zzm f hf f.blocks.length 0 a0 a2 a5 (by omega) (by omega);simp only [List.take_zero,List.sum_nil,yy,yf] at h;simp -implicitDefEqProofs only [go_sem] at h;simp -implicitDefEqProofs only [go_sem,zfd,h]
section
variable (f : PFunc) (hf : okF f)
abbrev st4 (f : PFunc) (b : PBlock) : zd:=[.cells 0 3 [zcz f],.cells 0 5 [zw b]]
include hf
theorem zAa (b : PBlock) (m : okB b) (i : Int) : ∀ (d k : Nat) (a0 a2 a6 a7 a8 a9 j g c e l h : V),b.phis.length - k = d → k ≤ b.phis.length →
  exec T zdi ⟨[a0,.one (.ptr 0 0 0 0),a2,vI i,.one (.ptr 1 0 0 0),vI k,a6,a7,a8,a9,j,g,c,e,l,h],st4 f b,0,0⟩ =
   some (match (b.phis.drop k).find? (fun x => !zie x) with | none => (.exit 2,⟨[vU,.one (.ptr 0 0 0 0),vU,vI i,.one (.ptr 1 0 0 0),vU,vU,vU,vU,vU,vU,vU,vU,vU,vU,vU],st4 f b,0,0⟩) | some x => (.ret,⟨[vU,vU,vB false,vU,vU,vU,vU,vU,vU,vU,vU,vU,vU,vU,vU,vU],st4 f b ++ [.cells 0 4 [zw6 x]],0,0⟩)):=by
 intro d
 induction d with
 | zero =>
   intro k a0 a2 a6 a7 a8 a9 j g c e l h o p;have a : k = b.phis.length:=(by omega);subst a;rw [xl zdi rfl,zfi];simp -implicitDefEqProofs only [go_sem,st4,yp,ya,yq,yx]
 | succ d ih =>
   intro k a0 a2 a6 a7 a8 a9 j g c e l h o p;have a : k < b.phis.length:=(by omega);have hd : b.phis.drop k = b.phis[k] :: b.phis.drop (k + 1):=yg a;have n:=m.phi _ (yr a);have c1:=zc1 b.phis[k].bits;have c2:=zc1 b.phis[k].dst;have c3:=zgR b.phis[k].src n.1;have c4:=zgR b.phis[k].args n.2;have:=ih (k + 1) vU vU vU vU vU vU vU vU vU vU vU vU (by omega) (by omega);rw [xl zdi rfl,zfi,hd];simp -implicitDefEqProofs only [go_sem,st4] at this;cases e1 : num b.phis[k].bits
   ·simp -implicitDefEqProofs only [go_sem,e1] at c1
    simp -implicitDefEqProofs only [go_sem,st4,ilt a,zy a,rp,ya,c1,zie,yc,e1]
   simp -implicitDefEqProofs only [go_sem,e1] at c1;cases e2 : num b.phis[k].dst
   ·simp -implicitDefEqProofs only [go_sem,e2] at c2
    simp -implicitDefEqProofs only [go_sem,st4,ilt a,zy a,rp,ya,c1,c2,zie,yc,e1,e2]
   simp -implicitDefEqProofs only [go_sem,e2] at c2;cases e3 : zgv b.phis[k].src
   ·simp -implicitDefEqProofs only [go_sem,e3] at c3
    simp -implicitDefEqProofs only [go_sem,st4,ilt a,zy a,rp,ya,c1,c2,c3,zie,yc,e1,e2,e3]
   simp -implicitDefEqProofs only [go_sem,e3] at c3;cases e4 : zgv b.phis[k].args
   ·simp -implicitDefEqProofs only [go_sem,e4] at c4
    simp -implicitDefEqProofs only [go_sem,st4,ilt a,zy a,rp,ya,c1,c2,c3,c4,zie,yc,e1,e2,e3,e4]
   simp -implicitDefEqProofs only [go_sem,e4] at c4;simp -implicitDefEqProofs only [go_sem,st4,ilt a,zy a,rp,ya,c1,c2,c3,c4,zie,yc,e1,e2,e3,e4,za a m.phis,this]
theorem zBJ (b : PBlock) (m : okB b) (i : Int) : ∀ (d k : Nat) (a0 a2 a5 a6 a8 a9 j g c e l h : V),b.ops.length - k = d → k ≤ b.ops.length →
  exec T zdh ⟨[a0,.one (.ptr 0 0 0 0),a2,vI i,.one (.ptr 1 0 0 0),a5,a6,vI k,a8,a9,j,g,c,e,l,h],st4 f b,0,0⟩ =
   some (match (b.ops.drop k).find? (fun x => !zmw x) with | none => (.exit 4,⟨[vU,.one (.ptr 0 0 0 0),vU,vI i,.one (.ptr 1 0 0 0),vU,vU,vU,vU,vU,vU,vU,vU,vU,vU,vU],st4 f b,0,0⟩) | some x => (.ret,⟨[vU,vU,vB false,vU,vU,vU,vU,vU,vU,vU,vU,vU,vU,vU,vU,vU],st4 f b ++ [.cells 0 6 [cOp x]],0,0⟩)):=by
 intro d
 induction d with
 | zero =>
   intro k a0 a2 a5 a6 a8 a9 j g c e l h o p;have a : k = b.ops.length:=(by omega);subst a;rw [xl zdh rfl,zfk];simp -implicitDefEqProofs only [go_sem,st4,yp,ya,yq,yx]
 | succ d ih =>
   intro k a0 a2 a5 a6 a8 a9 j g c e l h o p;have a : k < b.ops.length:=(by omega);have hd : b.ops.drop k = b.ops[k] :: b.ops.drop (k + 1):=yg a;have n:=m.op _ (yr a);have c1:=zc1 b.ops[k].kind;have c2:=zc1 b.ops[k].bits;have c3:=zc1 b.ops[k].lanes;have c4:=zc1 b.ops[k].dst;have c5:=zgR b.ops[k].args n.2;have:=ih (k + 1) vU vU vU vU vU vU vU vU vU vU vU vU (by omega) (by omega);rw [xl zdh rfl,zfk,hd];simp -implicitDefEqProofs only [go_sem,st4] at this;cases e1 : num b.ops[k].kind
   ·simp -implicitDefEqProofs only [go_sem,e1] at c1
    simp -implicitDefEqProofs only [go_sem,st4,ilt a,zy a,ro,ya,c1,zmw,yc,e1]
   simp -implicitDefEqProofs only [go_sem,e1] at c1;cases e2 : num b.ops[k].bits
   ·simp -implicitDefEqProofs only [go_sem,e2] at c2
    simp -implicitDefEqProofs only [go_sem,st4,ilt a,zy a,ro,ya,c1,c2,zmw,yc,e1,e2]
   simp -implicitDefEqProofs only [go_sem,e2] at c2;cases e3 : num b.ops[k].lanes
   ·simp -implicitDefEqProofs only [go_sem,e3] at c3
    simp -implicitDefEqProofs only [go_sem,st4,ilt a,zy a,ro,ya,c1,c2,c3,zmw,yc,e1,e2,e3]
   simp -implicitDefEqProofs only [go_sem,e3] at c3;cases e4 : num b.ops[k].dst
   ·simp -implicitDefEqProofs only [go_sem,e4] at c4
    simp -implicitDefEqProofs only [go_sem,st4,ilt a,zy a,ro,ya,c1,c2,c3,c4,zmw,yc,e1,e2,e3,e4]
   simp -implicitDefEqProofs only [go_sem,e4] at c4;cases e5 : zgv b.ops[k].args
   ·simp -implicitDefEqProofs only [go_sem,e5] at c5
    simp -implicitDefEqProofs only [go_sem,st4,ilt a,zy a,ro,ya,c1,c2,c3,c4,c5,zmw,yc,e1,e2,e3,e4,e5]
   simp -implicitDefEqProofs only [go_sem,e5] at c5;simp -implicitDefEqProofs only [go_sem,st4,ilt a,zy a,ro,ya,c1,c2,c3,c4,c5,zmw,yc,e1,e2,e3,e4,e5,za a m.ops,this]
theorem zBI : ∀ (d k : Nat),f.blocks.length - k = d → k ≤ f.blocks.length →
  ∃ r,∀ (a0 a2 a4 a5 a6 a7 a8 a9 g c a b h e : V),exec T zU ⟨[a0,.one (.ptr 0 0 0 0),a2,vI k,a4,a5,a6,a7,a8,a9,g,c,a,b,h,e],[.cells 0 3 [zcz f]],0,0⟩ =
    some (if (f.blocks.drop k).all zrH = true then (.exit 0,⟨[vU,vU,vU,vU,vU,vU,vU,vU,vU,vU,vU,vU,vU,vU,vU,vU],[.cells 0 3 [zcz f]],0,0⟩) else (.ret,⟨[vU,vU,vB false,vU,vU,vU,vU,vU,vU,vU,vU,vU,vU,vU,vU,vU],.cells 0 3 [zcz f] :: r,0,0⟩)):=by
 intro d
 induction d with
 | zero =>
   intro k q s;have i : k = f.blocks.length:=(by omega);subst i;refine ⟨[],fun a0 a2 a4 a5 a6 a7 a8 a9 g c a b h e => ?_⟩;rw [xl zU rfl,zab];simp -implicitDefEqProofs only [go_sem,yp,ya,yq,List.all_nil]
 | succ d ih =>
   intro k q s;have i : k < f.blocks.length:=(by omega);have hd : f.blocks.drop k = f.blocks[k] :: f.blocks.drop (k + 1):=yg i;have o:=hf.block _ (yr i);have l:=fun a0 a2 a6 a7 a8 a9 g c a b h e => zAa f hf f.blocks[k] o k f.blocks[k].phis.length 0 a0 a2 a6 a7 a8 a9 g c a b h e (by omega) (by omega);have j:=fun a0 a2 a5 a6 a8 a9 g c a b h e => zBJ f hf f.blocks[k] o k f.blocks[k].ops.length 0 a0 a2 a5 a6 a8 a9 g c a b h e (by omega) (by omega);have c1:=zc1 f.blocks[k].kind;have c2:=zc1 f.blocks[k].arg;have c3:=zgR f.blocks[k].to o.to;simp only [yj,yf] at l j;obtain ⟨r,p⟩:=ih (k + 1) (by omega) (by omega);simp -implicitDefEqProofs only [go_sem] at p
   cases e1 : f.blocks[k].phis.find? (fun x => !zie x) with
   | some x =>
     have m:=zeY e1;simp -implicitDefEqProofs only [go_sem,st4,e1] at l;refine ⟨[.cells 0 5 [zw f.blocks[k]],.cells 0 4 [zw6 x]],fun a0 a2 a4 a5 a6 a7 a8 a9 g c a b h e => ?_⟩;rw [xl zU rfl,zab,hd,yi];simp -implicitDefEqProofs only [go_sem,ilt i,zy i,rb,ya,l,zrH,m]
   | none =>
   have m:=zeW e1;simp -implicitDefEqProofs only [go_sem,st4,e1] at l
   cases e2 : f.blocks[k].ops.find? (fun x => !zmw x) with
   | some x =>
     have n:=zeY e2;simp -implicitDefEqProofs only [go_sem,st4,e2] at j;refine ⟨[.cells 0 5 [zw f.blocks[k]],.cells 0 6 [cOp x]],fun a0 a2 a4 a5 a6 a7 a8 a9 g c a b h e => ?_⟩;rw [xl zU rfl,zab,hd,yi];simp -implicitDefEqProofs only [go_sem,ilt i,zy i,rb,ya,l,j,zrH,m,n]
   | none =>
   have n:=zeW e2;simp -implicitDefEqProofs only [go_sem,st4,e2] at j;cases e3 : num f.blocks[k].kind
   ·simp -implicitDefEqProofs only [go_sem,e3] at c1
    refine ⟨[.cells 0 5 [zw f.blocks[k]]],fun a0 a2 a4 a5 a6 a7 a8 a9 g c a b h e => ?_⟩;rw [xl zU rfl,zab,hd,yi];simp -implicitDefEqProofs only [go_sem,ilt i,zy i,rb,ya,l,j,c1,zrH,zqi,m,n,e3]
   simp -implicitDefEqProofs only [go_sem,e3] at c1;cases e4 : num f.blocks[k].arg
   ·simp -implicitDefEqProofs only [go_sem,e4] at c2
    refine ⟨[.cells 0 5 [zw f.blocks[k]]],fun a0 a2 a4 a5 a6 a7 a8 a9 g c a b h e => ?_⟩;rw [xl zU rfl,zab,hd,yi];simp -implicitDefEqProofs only [go_sem,ilt i,zy i,rb,ya,l,j,c1,c2,zrH,zqi,m,n,e3,e4]
   simp -implicitDefEqProofs only [go_sem,e4] at c2;cases e5 : zgv f.blocks[k].to
   ·simp -implicitDefEqProofs only [go_sem,e5] at c3
    refine ⟨[.cells 0 5 [zw f.blocks[k]]],fun a0 a2 a4 a5 a6 a7 a8 a9 g c a b h e => ?_⟩;rw [xl zU rfl,zab,hd,yi];simp -implicitDefEqProofs only [go_sem,ilt i,zy i,rb,ya,l,j,c1,c2,c3,zrH,zqi,m,n,e3,e4,e5]
   simp -implicitDefEqProofs only [go_sem,e5] at c3;refine ⟨r,fun a0 a2 a4 a5 a6 a7 a8 a9 g c a b h e => ?_⟩;rw [xl zU rfl,zab,hd,yi];simp -implicitDefEqProofs only [go_sem,ilt i,zy i,rb,ya,l,j,c1,c2,c3,zrH,zqi,m,n,e3,e4,e5,za i hf.blocks,p]
end
theorem zuO {l : List Int} (h : l.length ≤ 64) : zgv l = l.all num:=by
 unfold zgv;rw [decide_eq_true h,yz]
theorem zvY (f : PFunc) (hf : okF f) : call T 70 [zfg f] [] = some (vB (zmU f),[]):=by
 rw [ze (fn:=zP) rfl];have i:=zue f hf;have g:=zc1 f.ret;have e:=zgR f.params hf.params;simp -implicitDefEqProofs only [go_sem] at i g e
 by_cases c1 : f.blocks.length < 1
 ·have a : (f.blocks.length : Int) = 0:=by omega
  simp -implicitDefEqProofs only [go_sem,zP,zmU,c1,eq_true a,ya]
 have a : ¬ (f.blocks.length : Int) = 0:=by omega
 by_cases c2 : 64 < f.blocks.length
 ·have b : (f.blocks.length : Int) > 64:=by omega
  simp -implicitDefEqProofs only [go_sem,zP,zmU,c1,a,c2,eq_true b,ya]
 have b : ¬ (f.blocks.length : Int) > 64:=by omega
 by_cases c3 : 16 < f.params.length
 ·have c : (f.params.length : Int) > 16:=by omega
  simp -implicitDefEqProofs only [go_sem,zP,zmU,c1,a,c2,b,c3,eq_true c,ya]
 have c : ¬ (f.params.length : Int) > 16:=by omega
 rw [zuO (by omega)] at e;cases c6 : f.params.all num
 ·simp -implicitDefEqProofs only [go_sem,c6] at e
  simp -implicitDefEqProofs only [go_sem,zP,zmU,c1,a,c2,b,c3,c,e,c6,ya,yB]
 simp -implicitDefEqProofs only [go_sem,c6] at e;cases c5 : num f.ret
 ·simp -implicitDefEqProofs only [go_sem,c5] at g
  simp -implicitDefEqProofs only [go_sem,zP,zmU,c1,a,c2,b,c3,c,e,g,c6,c5,ya,yB]
 simp -implicitDefEqProofs only [go_sem,c5] at g
 by_cases c4 : 512 < zh5 f
 ·have d : (zh5 f : Int) > 512:=by omega
  simp -implicitDefEqProofs only [go_sem,zP,zmU,c1,a,c2,b,c3,c,i,c4,eq_true d,e,g,c6,c5,ya]
 have d : ¬ (zh5 f : Int) > 512:=by omega
 obtain ⟨r,h⟩:=zBI f hf f.blocks.length 0 (by omega) (by omega);simp only [yj,yf] at h;cases c7 : f.blocks.all zrH
 ·simp -implicitDefEqProofs only [go_sem,c7] at h
  simp -implicitDefEqProofs only [go_sem,zP,zmU,c1,a,c2,b,c3,c,i,c4,d,e,g,c6,c5,c7,h,ya]
 ·simp -implicitDefEqProofs only [go_sem,c7] at h
  simp -implicitDefEqProofs only [go_sem,zP,zmU,c1,a,c2,b,c3,c,i,c4,d,e,g,c6,c5,c7,h,ya]
theorem zfU {f : PFunc} (h : zmU f = true) : 1 ≤ f.blocks.length ∧ f.blocks.length ≤ 64 ∧ f.params.length ≤ 16 ∧ zh5 f ≤ 512 ∧ ∀ b ∈ f.blocks,zrH b = true:=by
 unfold zmU at h;simp only [yb,yt,ys,decide_eq_false_iff_not,yl] at h;exact ⟨by omega,by omega,by omega,by omega,h.2⟩
theorem zuL {l : List Int} (h : zgv l = true) : l.length ≤ 64:=by
 unfold zgv at h;simp only [yb,decide_eq_true_eq] at h;exact h.1
theorem zsz {b : PBlock} (h : zrH b = true) : (∀ p ∈ b.phis,p.args.length ≤ 64) ∧ ∀ o ∈ b.ops,o.args.length ≤ 64:=by
 unfold zrH at h;simp only [yb,yl] at h;refine ⟨fun p c => ?_,fun o a => ?_⟩
 ·have:=h.1 p c
  unfold zie at this;simp only [yb] at this;exact zuL this.2.2
 ·have:=h.2.1 o a
  unfold zmw at this;simp only [yb] at this;exact zuL this.2
theorem zqf : ∀ (l : List PPhi),(∀ p ∈ l,p.args.length ≤ 64) → (zaA l).length ≤ 64 * l.length
 | [],_ => by simp [zaA]
 | p :: l,h => by
   have b:=zqf l fun q c => h q (yk _ c);have d:=h p yn
   have a : ∀ (l : List Int) (j : Nat),(zM p j l).length = l.length:=by
    intro l
    induction l with
    | nil => intro j; rfl
    | cons x l b => intro j; rw [zM,ye,b,ye]
   have e : zaA (p :: l) = zgk p ++ zaA l:=rfl;have e2 : (zgk p).length = p.args.length:=a _ 0;rw [e,yd,e2,ye];omega
theorem zl5 (o : POp) (i at' : Int) : ∀ (l : List (Int × Int)) (k : Nat),(zW o i at' k l).length = l.length
 | [],_ => rfl
 | s :: r,k => by rw [zW,ye,zl5 o i at' r,ye]
theorem zsA (i : Int) : ∀ (l : List POp) (k : Nat),(∀ o ∈ l,o.args.length ≤ 64) → (zr i k l).length ≤ 64 * l.length
 | [],_,_ => by simp [zr]
 | o :: l,k,h => by
   have b:=zsA i l (k + 1) fun q a => h q (yk _ a);have c:=h o yn;have d:=zos o;have e2 : (zkK o i (k : Int)).length = (zaC o).length:=zl5 _ _ _ _ _;rw [zr,yd,e2,ye];omega
theorem zqP (f : PFunc) : ∀ (l : List PBlock) (k : Nat),(∀ b ∈ l,zrH b = true) → (zaB f k l).length ≤ 64 * (l.map fun b => b.phis.length + b.ops.length).sum + l.length
 | [],_,_ => by simp [zaB]
 | b :: l,k,h => by
   have e:=zqP f l (k + 1) fun q a => h q (yk _ a);obtain ⟨c,d⟩:=zsz (h b yn);have e1:=zqf b.phis c;have e2:=zsA (k : Int) b.ops 0 d
   have e3 : (zbK f k b).length ≤ 1:=by
    unfold zbK;split <;> simp
   rw [zaB,zgN,yd,yd,yd,yu,yv,ye];omega
theorem zEd {f : PFunc} (h : zmU f = true) : (zfj f).length ≤ 40000:=by
 obtain ⟨d,e,c,b,a⟩:=zfU h;have:=zqP f f.blocks 0 a;unfold zh5 at b;unfold zfj;omega
theorem ztH {f : PFunc} (h : zmU f = true) : (zt f).length ≤ 600:=by
 obtain ⟨e,g,c,a,d⟩:=zfU h
 have key : ∀ (l : List PBlock) (k : Nat),(zaa k l).length ≤ (l.map fun b => b.phis.length + b.ops.length).sum:=by
  intro l
  induction l with
  | nil => intro k; simp [zaa]
  | cons b l ih =>
    intro k;have:=zjJ (k : Int) b.ops 0;have:=ih (k + 1);rw [zaa,yd,yd,yu,yv];simp only [zcZ,ya];omega
 have:=key f.blocks 0;unfold zh5 at a;rw [zt,yd,zg2];omega
theorem zmb (pred : List (List Int)) (reach : List Bool) : ∀ (l : List PBlock) (i : Nat),zbI pred reach i l = true → ∀ b ∈ l,∃ j,zld pred reach j b = true
 | [],_,_ => by simp
 | b :: l,i,h => by
   rw [zbI,yb] at h;intro c a;rcases yA.1 a with rfl | a
   ·exact ⟨i,h.1⟩
   ·exact zmb pred reach l (i + 1) h.2 c a
theorem zDH {f : PFunc} (h : zg0 f = true) : ∀ b ∈ f.blocks,zkI b:=fun b c => by
 unfold zg0 at h;rw [yb] at h;obtain ⟨j,a⟩:=zmb _ _ _ _ h.2 b c;unfold zld at a;simp only [yb,yl] at a;refine ⟨fun p d => ?_,fun o _ => zos o⟩;have:=a.2.2 p d;unfold ziz at this;simp only [yb,decide_eq_true_eq] at this;exact this.2
def zen (f : PFunc) : List Use:=(zfj f).map zac
def zaz (f : PFunc) (level : Int) : Int :=
 if level < 0 ∨ 2 < level then 1 else if zmU f = false then 4 else if zg0 f = false then 5 else if zfY f level = false then 6 else
 if zfE (zt f) 0 (zt f) = false then 7 else if (zen f).all (zkO (zt f)) = false then 7 else if (zen f).all (sameShape (zt f)) = false then 6 else
 if (zen f).all (zg1 (zt f) (zdl (zo f) 0)) = false then 7 else 0
theorem zHx {f : PFunc} {level : Int} (h : zfY f level = true) : ¬ f.ret = 0:=by
 unfold zfY at h;rw [yb] at h;have:=zds h.1;omega
set_option maxRecDepth 10000 in
theorem zjY (f : PFunc) (d : okF f) (level : Int) : call T 30 [zfg f,vI level] [] = some (vI (zaz f level),[]):=by
 rw [ze (fn:=zq) rfl]
 by_cases c1 : level < 0
 ·have e : zaz f level = 1:=by unfold zaz; rw [if_pos (.inl c1)]
  rw [e];simp -implicitDefEqProofs only [go_sem,zq,eq_true c1]
 by_cases c2 : 2 < level
 ·have e : zaz f level = 1:=by unfold zaz; rw [if_pos (.inr c2)]
  have c : level > 2:=c2;rw [e];simp -implicitDefEqProofs only [go_sem,zq,c1,eq_true c]
 have c : ¬ level > 2:=c2;have Q : level = 0 ∨ level = 1 ∨ level = 2:=by omega
 have z:=zvY f d;cases m : zmU f
 ·have e : zaz f level = 4:=by unfold zaz; rw [if_neg (by omega),if_pos m]
  simp -implicitDefEqProofs only [go_sem,m] at z;rw [e];simp -implicitDefEqProofs only [go_sem,zq,c1,c,z]
 simp -implicitDefEqProofs only [go_sem,m] at z;have A:=ztF f d;cases s : zg0 f
 ·have e : zaz f level = 5:=by unfold zaz; rw [if_neg (by omega),if_neg (by simp [m]),if_pos s]
  simp -implicitDefEqProofs only [go_sem,s] at A;rw [e];simp -implicitDefEqProofs only [go_sem,zq,c1,c,z,A]
 simp -implicitDefEqProofs only [go_sem,s] at A;have C:=zta f d level Q;cases t : zfY f level
 ·have e : zaz f level = 6:=by unfold zaz; rw [if_neg (by omega),if_neg (by simp [m]),if_neg (by simp [s]),if_pos t]
  simp -implicitDefEqProofs only [go_sem,t] at C;rw [e];simp -implicitDefEqProofs only [go_sem,zq,c1,c,z,A,C]
 simp -implicitDefEqProofs only [go_sem,t] at C;obtain ⟨n1,n64,Z,M,nb⟩:=zfU m;have Y:=ztH m;have U:=zEd m;have I:=zkn f d (by unfold zh5 at M; omega)
 have P : ∀ b ∈ f.blocks,b.ops.length ≤ 1048576:=fun b V => by
  have E : b.phis.length + b.ops.length ≤ (f.blocks.map fun b => b.phis.length + b.ops.length).sum:=by
   have key : ∀ l : List PBlock,b ∈ l → b.phis.length + b.ops.length ≤ (l.map fun b => b.phis.length + b.ops.length).sum:=by
    intro l
    induction l with
    | nil => intro h; cases h
    | cons a l ih =>
      intro h;simp only [yu,yv];rcases yA.1 h with rfl | h
      ·omega
      ·have:=ih h; omega
   exact key _ V
  unfold zh5 at M;omega
 have J:=zun f d (zHx t) (zDH s) P (by omega);have G : (zen f).length ≤ 4294967296:=by unfold zen; rw [ya]; omega
 have R : (zfj f).map zac = zen f:=rfl;rw [R] at J;have D:=fun a0 a1 a3 a6 a7 a8 a9 w n i k y p q g v j a20 o a22 a23 a24 a25 a26 => zyW f d (zt f) (by omega) (zt f).length 0 a0 a1 a3 a6 a7 a8 a9 w n i k y p q g v j a20 o a22 a23 a24 a25 a26 (by omega) (by omega);have E:=fun a0 a1 a3 a5 a8 a9 w n i k y p q g v j a20 o a22 a23 a24 a25 a26 => zyR f d (zt f) (zen f) (by omega) G (zen f).length 0 a0 a1 a3 a5 a8 a9 w n i k y p q g v j a20 o a22 a23 a24 a25 a26 (by omega) (by omega);simp only [yf,yj] at D E;simp -implicitDefEqProofs only [go_sem] at I J
 have X : ∀ x,(if level < 0 ∨ 2 < level then (1 : Int) else if zmU f = false then 4 else if zg0 f = false then 5 else if zfY f level = false then 6 else x) = x:=fun x => by
  rw [if_neg (by omega),if_neg (by simp [m]),if_neg (by simp [s]),if_neg (by simp [t])]
 have e0 : zaz f level = (if zfE (zt f) 0 (zt f) = false then 7 else if (zen f).all (zkO (zt f)) = false then 7 else if (zen f).all (sameShape (zt f)) = false then 6 else
  if (zen f).all (zg1 (zt f) (zdl (zo f) 0)) = false then 7 else 0):=by unfold zaz; exact X _
 rw [e0];cases d0 : zfE (zt f) 0 (zt f)
 ·simp -implicitDefEqProofs only [go_sem,ziU,d0,yh] at D
  simp -implicitDefEqProofs only [go_sem,zq,c1,c,z,A,C,I,D]
 simp -implicitDefEqProofs only [go_sem,ziU,d0] at D;cases d1 : (zen f).all (zkO (zt f))
 ·simp -implicitDefEqProofs only [go_sem,ziU,d1,yh] at E
  simp -implicitDefEqProofs only [go_sem,zq,c1,c,z,A,C,I,D,J,E]
 simp -implicitDefEqProofs only [go_sem,ziU,d1] at E;have B : ∀ u ∈ zen f,zkO (zt f) u = true:=yl.1 d1;have K:=fun a0 a1 a3 a5 a7 a9 w n i k y p q g v j a20 o a22 a23 a24 a25 a26 => zzn f d (zt f) (zen f) (by omega) G B (zen f).length 0 a0 a1 a3 a5 a7 a9 w n i k y p q g v j a20 o a22 a23 a24 a25 a26 (by omega) (by omega);simp only [yf,yj] at K;cases d2 : (zen f).all (sameShape (zt f))
 ·simp -implicitDefEqProofs only [go_sem,ziU,d2,yh] at K
  simp -implicitDefEqProofs only [go_sem,zq,c1,c,z,A,C,I,D,J,E,K]
 simp -implicitDefEqProofs only [go_sem,ziU,d2] at K
 have S : zaM f = true:=by
  unfold zg0 at s;rw [yb] at s;exact s.1
 have hm:=zfW S;have W : (zo f).length = f.blocks.length:=by simp [zo]
 have N:=zr5 f d;have H:=zuv (zo f) (ziW d) hm 0 (by omega);have O : (zdl (zo f) 0).length ≤ 4294967296:=by simp [zdl]; omega
 obtain ⟨r,L⟩:=zzk f d (zt f) (zen f) (by omega) G B (zdl (zo f) 0) O (.sl ((zo f).map rl)) (.sl ((zZ (zo f)).map rl)) (zen f).length 0 (by omega) (by omega);simp only [yf,yj] at L;simp -implicitDefEqProofs only [go_sem,zhg,S] at N;simp -implicitDefEqProofs only [go_sem] at H;cases d3 : (zen f).all (zg1 (zt f) (zdl (zo f) 0))
 ·simp -implicitDefEqProofs only [go_sem,ziU,d3,yh] at L
  simp -implicitDefEqProofs only [go_sem,zq,c1,c,z,A,C,I,D,J,E,K,N,H,L]
 ·simp -implicitDefEqProofs only [go_sem,ziU,d3] at L
  simp -implicitDefEqProofs only [go_sem,zq,c1,c,z,A,C,I,D,J,E,K,N,H,L]
end AC
namespace AC
open Dm
section
variable {succ : List (List Int)} {root : Nat} {O : Int → Prop} {pos : Int → Nat} {t : List Int} (Q : TreeOf succ root O pos t)
include Q
theorem zor : (root : Int) < (succ.length : Int):=(Q.rng _ Q.ord.rt).2
theorem zpW {x : Int} (a : 0 ≤ x) : tr (t.set root (-1)) x = if x = (root : Int) then -1 else tr t x:=by
 have:=zxT (t:=t) (x:=(root : Int)) (-1) ⟨by omega,by rw [Q.len]; exact zor Q⟩ a
 rwa [yo] at this
theorem zJz {x : Int} (h : O x) : tf t x ≠ -2:=zGG Q.ord Q.inv Q.st h
theorem zvb {x : Int} (h : O x) (b : x ≠ (root : Int)) : tr (t.set root (-1)) x = tf t x ∧ O (tf t x) ∧ pos (tf t x) < pos x ∧ tf t x ≠ -1:=by
 have rx:=Q.rng x h;obtain ⟨c,d⟩:=Q.inv.par x b (zJz Q h);have a:=zj8 Q.ord Q.inv c;exact ⟨by rw [zpW Q rx.1,if_neg b,zw3 rx.1],a,d,by have:=(Q.rng _ a).1; omega⟩
theorem zAC {x : Int} (h : ¬ O x) (h0 : 0 ≤ x) : tr (t.set root (-1)) x = -2:=by
 rw [zpW Q h0,if_neg (by rintro rfl; exact h Q.ord.rt),← zw3 h0];exact Q.inv.out x h
theorem zl3 : (t.set root (-1)).length = succ.length:=by simp [Q.len]
theorem zID : ∀ (r : Nat) (x k : Int),O x → pos x < r → ∃ m,zaj (t.set root (-1)) r k x = some m ∧ k ≤ m:=by
 intro r
 induction r with
 | zero => intro x k _ h; omega
 | succ r ih =>
   intro x k a g;have rx:=Q.rng x a;rw [zaj,if_neg (by omega),if_neg (by rw [zl3 Q]; omega)]
   by_cases c : x = (root : Int)
   ·rw [if_pos (by rw [zpW Q rx.1,if_pos c])]
    exact ⟨k,rfl,Int.le_refl _⟩
   ·obtain ⟨b,e,f,d⟩:=zvb Q a c
    rw [b,if_neg d];obtain ⟨m,m1,m2⟩:=ih _ (k + 1) e (by omega);exact ⟨m,m1,by omega⟩
theorem zrq {x : Int} (h : O x) : 0 ≤ zL (t.set root (-1)) x:=by
 obtain ⟨m,a,b⟩:=zID Q (t.set root (-1)).length x 0 h (by rw [zl3 Q]; exact Q.low x h);rw [zL,a];exact b
theorem zH8 {x : Int} (h : ¬ O x) : zL (t.set root (-1)) x < 0:=by
 by_cases c : 0 ≤ zL (t.set root (-1)) x
 ·have r:=zhP c
  have e:=zAC Q h r.1
  by_cases z : zL (t.set root (-1)) x = 0
  ·have:=zhE z
   omega
  ·have:=zfG c (by omega)
   rw [e] at this;have b:=zhP (t:=t.set root (-1)) (a:=-2) (by omega);omega
 ·omega
theorem zC6 (x : Int) : 0 ≤ zL (t.set root (-1)) x ↔ O x:=by
 by_cases h : O x
 ·exact ⟨fun _ => h,fun _ => zrq Q h⟩
 ·exact ⟨fun c => absurd c (by have:=zH8 Q h; omega),fun c => absurd c h⟩
omit Q in
theorem zoM {tree : List Int} : ∀ (l : List Int) (k m : Nat),(∀ j x,l[j]? = some x → x ≠ -2 → 0 ≤ zL tree ((k + j : Nat) : Int)) → zaY tree k m l = some (m + l.count (-1))
 | [],_,_,_ => by simp [zaY]
 | x :: l,k,m,h => by
   have hr:=fun m' => zoM l (k + 1) m' fun j y hj hy => by
    have:=h (j + 1) y (by simpa using hj) hy
    rwa [show k + (j + 1) = k + 1 + j by omega] at this
   rw [zaY]
   by_cases c : x = -2
   ·rw [if_pos c,hr m,c]
    rw [yw];simp
   ·have h0:=h 0 x rfl c
    rw [yy] at h0;rw [if_neg c,if_neg (by omega),hr _,yw]
    by_cases d : x = -1
    ·rw [if_pos d]
     simp [d];omega
    ·rw [if_neg d]
     simp [d]
theorem zxu : zhj (t.set root (-1)) = true:=by
 have h:=zoM (tree:=t.set root (-1)) (t.set root (-1)) 0 0 fun j x hj b => by
  rw [Nat.zero_add,zC6 Q]
  by_cases c : O (j : Int)
  ·exact c
  ·have:=zAC Q c (by omega)
   unfold tr at this;rw [yo,ym,hj] at this;exact absurd this b
 have a : root < t.length:=by have:=zor Q; rw [Q.len]; omega
 have h0 : t.count (-1) = 0:=by
  rw [List.count_eq_zero];intro hm;obtain ⟨j,hj⟩:=List.mem_iff_getElem?.1 hm
  have e : tf t (j : Int) = -1:=by
   rw [zw3 (by omega)];unfold tr;rw [yo,ym,hj];rfl
  have f : tf t (j : Int) ≠ -2:=by rw [e]; omega
  by_cases c : (j : Int) = (root : Int)
  ·rw [c,Q.inv.rt] at e
   omega
  ·exact (zvb Q (zj8 Q.ord Q.inv f) c).2.2.2 e
 have d : (t.set root (-1)).count (-1) = 1:=by
  rw [List.count_set a,h0];simp
 unfold zhj;rw [h,d];rfl
theorem zpo {y x : Int} (h : Anc (root : Int) (tf t) y x) (b : O x) : O y ∧ (y = x ∨ zL (t.set root (-1)) y < zL (t.set root (-1)) x):=by
 induction h with
 | refl => exact ⟨b,.inl rfl⟩
 | step n h ih =>
   rename_i x;obtain ⟨c,f,g,e⟩:=zvb Q b n;obtain ⟨d,a⟩:=ih f;have:=zfG (zrq Q b) (by rw [c]; exact e);rw [c] at this;refine ⟨d,.inr ?_⟩;rcases a with a | a
   ·rw [a]; omega
   ·omega
theorem zoQ : ∀ (r : Nat) (a b : Int),O a → O b → zL (t.set root (-1)) a + zL (t.set root (-1)) b ≤ r → O (zjt (t.set root (-1)) r a b) ∧ ∀ y,Anc (root : Int) (tf t) y (zjt (t.set root (-1)) r a b) ↔ Anc (root : Int) (tf t) y a ∧ Anc (root : Int) (tf t) y b:=by
 have rt : ∀ a,O a → zL (t.set root (-1)) a = 0 → a = (root : Int):=fun a f h => by
  by_cases c : a = (root : Int)
  ·exact c
  ·obtain ⟨l,_,_,u⟩:=zvb Q f c
   rw [zhE h] at l;exact absurd l.symm u
 intro r
 induction r with
 | zero =>
   intro a b f j h;have l:=zrq Q f;have q:=zrq Q j;have e1:=rt a f (by omega);have e2:=rt b j (by omega);subst e1 e2;exact ⟨f,fun y => ⟨fun h => ⟨h,h⟩,fun h => h.1⟩⟩
 | succ r ih =>
   intro a b f j h;have l:=zrq Q f;have q:=zrq Q j;rw [zjt]
   by_cases c : a = b
   ·subst c
    rw [if_pos rfl];exact ⟨f,fun y => ⟨fun h => ⟨h,h⟩,fun h => h.1⟩⟩
   ·rw [if_neg c]
    by_cases d : zL (t.set root (-1)) b ≤ zL (t.set root (-1)) a
    ·rw [if_pos d]
     have hr : a ≠ (root : Int):=by
      rintro rfl;have e0:=zlH (t:=t.set root (-1)) (a:=(root : Int)) (by omega) (by rw [zl3 Q]; exact zor Q) (by rw [zpW Q (by omega),if_pos rfl]);exact c (rt b j (by omega)).symm
     obtain ⟨k,n,s,m⟩:=zvb Q f hr;have ds:=zfG l (by rw [k]; exact m);rw [k] at ds ⊢;obtain ⟨p,o⟩:=ih _ b n j (by omega);refine ⟨p,fun y => ?_⟩;rw [o y];constructor
     ·rintro ⟨i,g⟩
      exact ⟨.step hr i,g⟩
     ·rintro ⟨i,g⟩
      refine ⟨(zpd i ?_).2,g⟩;rintro rfl;rcases (zpo Q g j).2 with e | e
      ·exact c e
      ·omega
    ·rw [if_neg d]
     have hr : b ≠ (root : Int):=by
      rintro rfl;have e0:=zlH (t:=t.set root (-1)) (a:=(root : Int)) (by omega) (by rw [zl3 Q]; exact zor Q) (by rw [zpW Q (by omega),if_pos rfl]);omega
     obtain ⟨k,n,s,m⟩:=zvb Q j hr;have ds:=zfG q (by rw [k]; exact m);rw [k] at ds ⊢;obtain ⟨p,o⟩:=ih a _ f n (by omega);refine ⟨p,fun y => ?_⟩;rw [o y];constructor
     ·rintro ⟨i,g⟩
      exact ⟨i,.step hr g⟩
     ·rintro ⟨i,g⟩
      refine ⟨i,(zpd g ?_).2⟩;rintro rfl;rcases (zpo Q i f).2 with e | e
      ·exact c e.symm
      ·omega
theorem zGo (a b : Int) : inS (t.set root (-1)) [a,b] = true ↔ O a ∧ O b:=by
 unfold inS;rw [zxu Q];have c:=zC6 Q a;have d:=zC6 Q b;simp only [yz,List.any_cons,List.any_nil,Bool.or_false,yt,ys,decide_eq_false_iff_not];rw [← c,← d];omega
theorem zxd (a b : Int) : zlU (t.set root (-1)) a b = true ↔ O a ∧ O b ∧ Anc (root : Int) (tf t) a b:=by
 unfold zlU;rw [yb,zGo Q,decide_eq_true_eq];constructor
 ·rintro ⟨⟨c,d⟩,h⟩
  have f:=zoQ Q _ a b c d (by have:=zrq Q c; have:=zrq Q d; omega : zL (t.set root (-1)) a + zL (t.set root (-1)) b ≤ ((zL (t.set root (-1)) a + zL (t.set root (-1)) b).toNat : Int));rw [zyC,if_pos ((zGo Q a b).2 ⟨c,d⟩)] at h;rw [h] at f;exact ⟨c,d,((f.2 a).1 (.refl _)).2⟩
 ·rintro ⟨c,d,h⟩
  refine ⟨⟨c,d⟩,?_⟩;have f:=zoQ Q _ a b c d (by have:=zrq Q c; have:=zrq Q d; omega : zL (t.set root (-1)) a + zL (t.set root (-1)) b ≤ ((zL (t.set root (-1)) a + zL (t.set root (-1)) b).toNat : Int));rw [zyC,if_pos ((zGo Q a b).2 ⟨c,d⟩)];have g:=(f.2 a).2 ⟨.refl _,h⟩;have i:=((f.2 _).1 (.refl _)).1;rcases (zpo Q g f.1).2 with e | e
  ·exact e.symm
  ·rcases (zpo Q i c).2 with e2 | e2
   ·exact e2
   ·omega
theorem zEH (a b : Int) : zlU (t.set root (-1)) a b = true ↔ O a ∧ O b ∧ Dom (Eg succ) (root : Int) a b:=by
 rw [zxd Q];constructor
 ·rintro ⟨e,c,d⟩
  exact ⟨e,c,(zwl Q.ord Q.inv Q.st c).1 d⟩
 ·rintro ⟨e,c,d⟩
  exact ⟨e,c,(zwl Q.ord Q.inv Q.st c).2 d⟩
end
end AC

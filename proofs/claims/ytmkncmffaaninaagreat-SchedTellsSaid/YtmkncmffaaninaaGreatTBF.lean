/- A part of the proof of SchedTells. Conditions: none. -/
import Derived.Test.YtmkncmffaaninaaGreatTAW
import Derived.Test.YtmkncmffaaninaaGreatTBE
import Derived.Test.YtmkncmffaaninaaGreatTBD
import Derived.Test.YtmkncmffaaninaaGreatTBA
set_option linter.all false
open List renaming length_map → ya,find?_cons → yc,length_append → yd,length_cons → ye,drop_eq_getElem_cons → yg,all_cons → yi,drop_zero → yj,mem_cons_of_mem → yk,all_eq_true → yl,getD_eq_getElem?_getD → ym,mem_cons_self → yn,drop_length → yq,getElem_mem → yr,map_cons → yu,sum_cons → yv,count_cons → yw,find?_nil → yx,mem_cons → yA
open Bool renaming and_eq_true → yb,false_eq_true → yh,or_eq_false_iff → ys,not_eq_true' → yt,true_and → yz,or_true → yB
open Int renaming natCast_zero → yf,toNat_natCast → yo,lt_irrefl → yp
open Nat renaming add_zero → yy
namespace AC
open Go Go.A Go.A.Lex
theorem zyW (f : PFunc) (hf : okF f) : ∀ (d k : Nat) (a0 a2 a5 : V),f.blocks.length - k = d → k ≤ f.blocks.length →
  exec T zcB ⟨[a0,.one (.ptr 0 0 0 0),a2,vI ((k + ((f.blocks.map fun b => b.phis.length + b.ops.length).take k).sum : Nat) : Int),vI k,a5],[.cells 0 3 [z6 f]],0,0⟩ =
   some (.exit 0,⟨[vU,vU,vU,vI (ziX f : Int),vU,vU],[.cells 0 3 [z6 f]],0,0⟩):=by
 intro d
 induction d with
 | zero =>
   intro k a0 a2 a5 g j;have a : k = f.blocks.length:=(by omega);subst a;rw [xl zcB rfl,zez];have e : (f.blocks.map fun b => b.phis.length + b.ops.length).take f.blocks.length = f.blocks.map fun b => b.phis.length + b.ops.length:=List.take_of_length_le (by simp);simp -implicitDefEqProofs only [go_sem,yp,e,ziX,ya]
 | succ d ih =>
   intro k a0 a2 a5 g j;have a : k < f.blocks.length:=(by omega);have c : k < (f.blocks.map fun b => b.phis.length + b.ops.length).length:=(by simpa using a);have e:=zm3 (f.blocks.map fun b => b.phis.length + b.ops.length) k c;have e2:=zqI (f.blocks.map fun b => b.phis.length + b.ops.length) (k + 1);have e3:=hf.small;have e4:=hf.blocks;simp only [List.getElem_map] at e
   have h : Go.IntKind.i64.wrap (((k + ((f.blocks.map fun b => b.phis.length + b.ops.length).take k).sum : Nat) : Int) + (f.blocks[k].phis.length : Int)) = ((k + ((f.blocks.map fun b => b.phis.length + b.ops.length).take k).sum : Nat) : Int) + (f.blocks[k].phis.length : Int):=by
    rw [wrap_i64] <;> omega
   have l : Go.IntKind.i64.wrap (((k + ((f.blocks.map fun b => b.phis.length + b.ops.length).take k).sum : Nat) : Int) + (f.blocks[k].phis.length : Int) + (f.blocks[k].ops.length : Int)) = ((k + ((f.blocks.map fun b => b.phis.length + b.ops.length).take k).sum : Nat) : Int) + (f.blocks[k].phis.length : Int) + (f.blocks[k].ops.length : Int):=by
    rw [wrap_i64] <;> omega
   have i : Go.IntKind.i64.wrap (((k + ((f.blocks.map fun b => b.phis.length + b.ops.length).take k).sum : Nat) : Int) + (f.blocks[k].phis.length : Int) + (f.blocks[k].ops.length : Int) + 1) = ((k + 1 + ((f.blocks.map fun b => b.phis.length + b.ops.length).take (k + 1)).sum : Nat) : Int):=by
    rw [wrap_i64] <;> omega
   have:=ih (k + 1) vU vU vU (by omega) (by omega);rw [xl zcB rfl,zez];simp -implicitDefEqProofs only [go_sem] at this;simp -implicitDefEqProofs only [go_sem,ilt a,zj a,rb,h,l,i,za a hf.blocks,ya,this]
theorem zvi (f : PFunc) (hf : okF f) : call T 123 [zd4 f] [] = some (vI (ziX f : Int),[]):=by
 rw [ze (fn:=zfr) rfl];have h:=fun a0 a2 a5 => zyW f hf f.blocks.length 0 a0 a2 a5 (by omega) (by omega);simp only [List.take_zero,List.sum_nil,yy,yf] at h;simp -implicitDefEqProofs only [go_sem] at h;simp -implicitDefEqProofs only [go_sem,zfr,h]
section
variable (f : PFunc) (hf : okF f)
abbrev st4 (f : PFunc) (b : PBlock) : zd:=[.cells 0 3 [z6 f],.cells 0 5 [zg b]]
include hf
theorem zAX (b : PBlock) (n : okB b) (i : Int) : ∀ (d k : Nat) (a0 a2 a6 a7 a8 a9 l e j g c h : V),b.phis.length - k = d → k ≤ b.phis.length →
  exec T zc9 ⟨[a0,.one (.ptr 0 0 0 0),a2,vI i,.one (.ptr 1 0 0 0),vI k,a6,a7,a8,a9,l,e,j,g,c,h],st4 f b,0,0⟩ =
   some (match (b.phis.drop k).find? (fun x => !zie x) with | none => (.exit 2,⟨[vU,.one (.ptr 0 0 0 0),vU,vI i,.one (.ptr 1 0 0 0),vU,vU,vU,vU,vU,vU,vU,vU,vU,vU,vU],st4 f b,0,0⟩) | some x => (.ret,⟨[vU,vU,vB false,vU,vU,vU,vU,vU,vU,vU,vU,vU,vU,vU,vU,vU],st4 f b ++ [.cells 0 4 [zuh x]],0,0⟩)):=by
 intro d
 induction d with
 | zero =>
   intro k a0 a2 a6 a7 a8 a9 l e j g c h o p;have a : k = b.phis.length:=(by omega);subst a;rw [xl zc9 rfl,zfs];simp -implicitDefEqProofs only [go_sem,st4,yp,ya,yq,yx]
 | succ d ih =>
   intro k a0 a2 a6 a7 a8 a9 l e j g c h o p;have a : k < b.phis.length:=(by omega);have hd : b.phis.drop k = b.phis[k] :: b.phis.drop (k + 1):=yg a;have m:=n.phi _ (yr a);have c1:=zcZ b.phis[k].bits;have c2:=zcZ b.phis[k].dst;have c3:=zgS b.phis[k].src m.1;have c4:=zgS b.phis[k].args m.2;have:=ih (k + 1) vU vU vU vU vU vU vU vU vU vU vU vU (by omega) (by omega);rw [xl zc9 rfl,zfs,hd];simp -implicitDefEqProofs only [go_sem,st4] at this;cases e1 : num b.phis[k].bits
   ·simp -implicitDefEqProofs only [go_sem,e1] at c1
    simp -implicitDefEqProofs only [go_sem,st4,ilt a,zj a,rp,ya,c1,zie,yc,e1]
   simp -implicitDefEqProofs only [go_sem,e1] at c1;cases e2 : num b.phis[k].dst
   ·simp -implicitDefEqProofs only [go_sem,e2] at c2
    simp -implicitDefEqProofs only [go_sem,st4,ilt a,zj a,rp,ya,c1,c2,zie,yc,e1,e2]
   simp -implicitDefEqProofs only [go_sem,e2] at c2;cases e3 : zgD b.phis[k].src
   ·simp -implicitDefEqProofs only [go_sem,e3] at c3
    simp -implicitDefEqProofs only [go_sem,st4,ilt a,zj a,rp,ya,c1,c2,c3,zie,yc,e1,e2,e3]
   simp -implicitDefEqProofs only [go_sem,e3] at c3;cases e4 : zgD b.phis[k].args
   ·simp -implicitDefEqProofs only [go_sem,e4] at c4
    simp -implicitDefEqProofs only [go_sem,st4,ilt a,zj a,rp,ya,c1,c2,c3,c4,zie,yc,e1,e2,e3,e4]
   simp -implicitDefEqProofs only [go_sem,e4] at c4;simp -implicitDefEqProofs only [go_sem,st4,ilt a,zj a,rp,ya,c1,c2,c3,c4,zie,yc,e1,e2,e3,e4,za a n.phis,this]
theorem zAM (b : PBlock) (m : okB b) (i : Int) : ∀ (d k : Nat) (a0 a2 a5 a6 a8 a9 l e j g c h : V),b.ops.length - k = d → k ≤ b.ops.length →
  exec T zdf ⟨[a0,.one (.ptr 0 0 0 0),a2,vI i,.one (.ptr 1 0 0 0),a5,a6,vI k,a8,a9,l,e,j,g,c,h],st4 f b,0,0⟩ =
   some (match (b.ops.drop k).find? (fun x => !zmI x) with | none => (.exit 4,⟨[vU,.one (.ptr 0 0 0 0),vU,vI i,.one (.ptr 1 0 0 0),vU,vU,vU,vU,vU,vU,vU,vU,vU,vU,vU],st4 f b,0,0⟩) | some x => (.ret,⟨[vU,vU,vB false,vU,vU,vU,vU,vU,vU,vU,vU,vU,vU,vU,vU,vU],st4 f b ++ [.cells 0 6 [cOp x]],0,0⟩)):=by
 intro d
 induction d with
 | zero =>
   intro k a0 a2 a5 a6 a8 a9 l e j g c h o p;have a : k = b.ops.length:=(by omega);subst a;rw [xl zdf rfl,zfn];simp -implicitDefEqProofs only [go_sem,st4,yp,ya,yq,yx]
 | succ d ih =>
   intro k a0 a2 a5 a6 a8 a9 l e j g c h o p;have a : k < b.ops.length:=(by omega);have hd : b.ops.drop k = b.ops[k] :: b.ops.drop (k + 1):=yg a;have n:=m.op _ (yr a);have c1:=zcZ b.ops[k].kind;have c2:=zcZ b.ops[k].bits;have c3:=zcZ b.ops[k].lanes;have c4:=zcZ b.ops[k].dst;have c5:=zgS b.ops[k].args n.2;have:=ih (k + 1) vU vU vU vU vU vU vU vU vU vU vU vU (by omega) (by omega);rw [xl zdf rfl,zfn,hd];simp -implicitDefEqProofs only [go_sem,st4] at this;cases e1 : num b.ops[k].kind
   ·simp -implicitDefEqProofs only [go_sem,e1] at c1
    simp -implicitDefEqProofs only [go_sem,st4,ilt a,zj a,ro,ya,c1,zmI,yc,e1]
   simp -implicitDefEqProofs only [go_sem,e1] at c1;cases e2 : num b.ops[k].bits
   ·simp -implicitDefEqProofs only [go_sem,e2] at c2
    simp -implicitDefEqProofs only [go_sem,st4,ilt a,zj a,ro,ya,c1,c2,zmI,yc,e1,e2]
   simp -implicitDefEqProofs only [go_sem,e2] at c2;cases e3 : num b.ops[k].lanes
   ·simp -implicitDefEqProofs only [go_sem,e3] at c3
    simp -implicitDefEqProofs only [go_sem,st4,ilt a,zj a,ro,ya,c1,c2,c3,zmI,yc,e1,e2,e3]
   simp -implicitDefEqProofs only [go_sem,e3] at c3;cases e4 : num b.ops[k].dst
   ·simp -implicitDefEqProofs only [go_sem,e4] at c4
    simp -implicitDefEqProofs only [go_sem,st4,ilt a,zj a,ro,ya,c1,c2,c3,c4,zmI,yc,e1,e2,e3,e4]
   simp -implicitDefEqProofs only [go_sem,e4] at c4;cases e5 : zgD b.ops[k].args
   ·simp -implicitDefEqProofs only [go_sem,e5] at c5
    simp -implicitDefEqProofs only [go_sem,st4,ilt a,zj a,ro,ya,c1,c2,c3,c4,c5,zmI,yc,e1,e2,e3,e4,e5]
   simp -implicitDefEqProofs only [go_sem,e5] at c5;simp -implicitDefEqProofs only [go_sem,st4,ilt a,zj a,ro,ya,c1,c2,c3,c4,c5,zmI,yc,e1,e2,e3,e4,e5,za a m.ops,this]
theorem zAF : ∀ (d k : Nat),f.blocks.length - k = d → k ≤ f.blocks.length →
  ∃ r,∀ (a0 a2 a4 a5 a6 a7 a8 a9 h b g c a e : V),exec T zK ⟨[a0,.one (.ptr 0 0 0 0),a2,vI k,a4,a5,a6,a7,a8,a9,h,b,g,c,a,e],[.cells 0 3 [z6 f]],0,0⟩ =
    some (if (f.blocks.drop k).all zsc = true then (.exit 0,⟨[vU,vU,vU,vU,vU,vU,vU,vU,vU,vU,vU,vU,vU,vU,vU,vU],[.cells 0 3 [z6 f]],0,0⟩) else (.ret,⟨[vU,vU,vB false,vU,vU,vU,vU,vU,vU,vU,vU,vU,vU,vU,vU,vU],.cells 0 3 [z6 f] :: r,0,0⟩)):=by
 intro d
 induction d with
 | zero =>
   intro k q s;have i : k = f.blocks.length:=(by omega);subst i;refine ⟨[],fun a0 a2 a4 a5 a6 a7 a8 a9 h b g c a e => ?_⟩;rw [xl zK rfl,zW];simp -implicitDefEqProofs only [go_sem,yp,ya,yq,List.all_nil]
 | succ d ih =>
   intro k q s;have i : k < f.blocks.length:=(by omega);have hd : f.blocks.drop k = f.blocks[k] :: f.blocks.drop (k + 1):=yg i;have o:=hf.block _ (yr i);have l:=fun a0 a2 a6 a7 a8 a9 h b g c a e => zAX f hf f.blocks[k] o k f.blocks[k].phis.length 0 a0 a2 a6 a7 a8 a9 h b g c a e (by omega) (by omega);have j:=fun a0 a2 a5 a6 a8 a9 h b g c a e => zAM f hf f.blocks[k] o k f.blocks[k].ops.length 0 a0 a2 a5 a6 a8 a9 h b g c a e (by omega) (by omega);have c1:=zcZ f.blocks[k].kind;have c2:=zcZ f.blocks[k].arg;have c3:=zgS f.blocks[k].to o.to;simp only [yj,yf] at l j;obtain ⟨r,p⟩:=ih (k + 1) (by omega) (by omega);simp -implicitDefEqProofs only [go_sem] at p
   cases e1 : f.blocks[k].phis.find? (fun x => !zie x) with
   | some x =>
     have m:=zfy e1;simp -implicitDefEqProofs only [go_sem,st4,e1] at l;refine ⟨[.cells 0 5 [zg f.blocks[k]],.cells 0 4 [zuh x]],fun a0 a2 a4 a5 a6 a7 a8 a9 h b g c a e => ?_⟩;rw [xl zK rfl,zW,hd,yi];simp -implicitDefEqProofs only [go_sem,ilt i,zj i,rb,ya,l,zsc,m]
   | none =>
   have m:=zfB e1;simp -implicitDefEqProofs only [go_sem,st4,e1] at l
   cases e2 : f.blocks[k].ops.find? (fun x => !zmI x) with
   | some x =>
     have n:=zfy e2;simp -implicitDefEqProofs only [go_sem,st4,e2] at j;refine ⟨[.cells 0 5 [zg f.blocks[k]],.cells 0 6 [cOp x]],fun a0 a2 a4 a5 a6 a7 a8 a9 h b g c a e => ?_⟩;rw [xl zK rfl,zW,hd,yi];simp -implicitDefEqProofs only [go_sem,ilt i,zj i,rb,ya,l,j,zsc,m,n]
   | none =>
   have n:=zfB e2;simp -implicitDefEqProofs only [go_sem,st4,e2] at j;cases e3 : num f.blocks[k].kind
   ·simp -implicitDefEqProofs only [go_sem,e3] at c1
    refine ⟨[.cells 0 5 [zg f.blocks[k]]],fun a0 a2 a4 a5 a6 a7 a8 a9 h b g c a e => ?_⟩;rw [xl zK rfl,zW,hd,yi];simp -implicitDefEqProofs only [go_sem,ilt i,zj i,rb,ya,l,j,c1,zsc,zp6,m,n,e3]
   simp -implicitDefEqProofs only [go_sem,e3] at c1;cases e4 : num f.blocks[k].arg
   ·simp -implicitDefEqProofs only [go_sem,e4] at c2
    refine ⟨[.cells 0 5 [zg f.blocks[k]]],fun a0 a2 a4 a5 a6 a7 a8 a9 h b g c a e => ?_⟩;rw [xl zK rfl,zW,hd,yi];simp -implicitDefEqProofs only [go_sem,ilt i,zj i,rb,ya,l,j,c1,c2,zsc,zp6,m,n,e3,e4]
   simp -implicitDefEqProofs only [go_sem,e4] at c2;cases e5 : zgD f.blocks[k].to
   ·simp -implicitDefEqProofs only [go_sem,e5] at c3
    refine ⟨[.cells 0 5 [zg f.blocks[k]]],fun a0 a2 a4 a5 a6 a7 a8 a9 h b g c a e => ?_⟩;rw [xl zK rfl,zW,hd,yi];simp -implicitDefEqProofs only [go_sem,ilt i,zj i,rb,ya,l,j,c1,c2,c3,zsc,zp6,m,n,e3,e4,e5]
   simp -implicitDefEqProofs only [go_sem,e5] at c3;refine ⟨r,fun a0 a2 a4 a5 a6 a7 a8 a9 h b g c a e => ?_⟩;rw [xl zK rfl,zW,hd,yi];simp -implicitDefEqProofs only [go_sem,ilt i,zj i,rb,ya,l,j,c1,c2,c3,zsc,zp6,m,n,e3,e4,e5,za i hf.blocks,p]
end
theorem zu7 {l : List Int} (h : l.length ≤ 64) : zgD l = l.all num:=by
 unfold zgD;rw [decide_eq_true h,yz]
theorem zwd (f : PFunc) (hf : okF f) : call T 70 [zd4 f] [] = some (vB (zmQ f),[]):=by
 rw [ze (fn:=zF) rfl];have i:=zvi f hf;have g:=zcZ f.ret;have d:=zgS f.params hf.params;simp -implicitDefEqProofs only [go_sem] at i g d
 by_cases c1 : f.blocks.length < 1
 ·have a : (f.blocks.length : Int) = 0:=by omega
  simp -implicitDefEqProofs only [go_sem,zF,zmQ,c1,eq_true a,ya]
 have a : ¬ (f.blocks.length : Int) = 0:=by omega
 by_cases c2 : 64 < f.blocks.length
 ·have b : (f.blocks.length : Int) > 64:=by omega
  simp -implicitDefEqProofs only [go_sem,zF,zmQ,c1,a,c2,eq_true b,ya]
 have b : ¬ (f.blocks.length : Int) > 64:=by omega
 by_cases c3 : 16 < f.params.length
 ·have c : (f.params.length : Int) > 16:=by omega
  simp -implicitDefEqProofs only [go_sem,zF,zmQ,c1,a,c2,b,c3,eq_true c,ya]
 have c : ¬ (f.params.length : Int) > 16:=by omega
 rw [zu7 (by omega)] at d;cases c6 : f.params.all num
 ·simp -implicitDefEqProofs only [go_sem,c6] at d
  simp -implicitDefEqProofs only [go_sem,zF,zmQ,c1,a,c2,b,c3,c,d,c6,ya,yB]
 simp -implicitDefEqProofs only [go_sem,c6] at d;cases c5 : num f.ret
 ·simp -implicitDefEqProofs only [go_sem,c5] at g
  simp -implicitDefEqProofs only [go_sem,zF,zmQ,c1,a,c2,b,c3,c,d,g,c6,c5,ya,yB]
 simp -implicitDefEqProofs only [go_sem,c5] at g
 by_cases c4 : 512 < ziX f
 ·have e : (ziX f : Int) > 512:=by omega
  simp -implicitDefEqProofs only [go_sem,zF,zmQ,c1,a,c2,b,c3,c,i,c4,eq_true e,d,g,c6,c5,ya]
 have e : ¬ (ziX f : Int) > 512:=by omega
 obtain ⟨r,h⟩:=zAF f hf f.blocks.length 0 (by omega) (by omega);simp only [yj,yf] at h;cases c7 : f.blocks.all zsc
 ·simp -implicitDefEqProofs only [go_sem,c7] at h
  simp -implicitDefEqProofs only [go_sem,zF,zmQ,c1,a,c2,b,c3,c,i,c4,e,d,g,c6,c5,c7,h,ya]
 ·simp -implicitDefEqProofs only [go_sem,c7] at h
  simp -implicitDefEqProofs only [go_sem,zF,zmQ,c1,a,c2,b,c3,c,i,c4,e,d,g,c6,c5,c7,h,ya]
theorem zi4 {f : PFunc} (h : zmQ f = true) : 1 ≤ f.blocks.length ∧ f.blocks.length ≤ 64 ∧ f.params.length ≤ 16 ∧ ziX f ≤ 512 ∧ ∀ b ∈ f.blocks,zsc b = true:=by
 unfold zmQ at h;simp only [yb,yt,ys,decide_eq_false_iff_not,yl] at h;exact ⟨by omega,by omega,by omega,by omega,h.2⟩
theorem zve {l : List Int} (h : zgD l = true) : l.length ≤ 64:=by
 unfold zgD at h;simp only [yb,decide_eq_true_eq] at h;exact h.1
theorem zrD {b : PBlock} (h : zsc b = true) : (∀ p ∈ b.phis,p.args.length ≤ 64) ∧ ∀ o ∈ b.ops,o.args.length ≤ 64:=by
 unfold zsc at h;simp only [yb,yl] at h;refine ⟨fun p c => ?_,fun o a => ?_⟩
 ·have:=h.1 p c
  unfold zie at this;simp only [yb] at this;exact zve this.2.2
 ·have:=h.2.1 o a
  unfold zmI at this;simp only [yb] at this;exact zve this.2
theorem zp1 : ∀ (l : List PPhi),(∀ p ∈ l,p.args.length ≤ 64) → (zar l).length ≤ 64 * l.length
 | [],_ => by simp [zar]
 | p :: l,h => by
   have b:=zp1 l fun q c => h q (yk _ c);have d:=h p yn
   have a : ∀ (l : List Int) (j : Nat),(zG p j l).length = l.length:=by
    intro l
    induction l with
    | nil => intro j; rfl
    | cons x l b => intro j; rw [zG,ye,b,ye]
   have e : zar (p :: l) = zgE p ++ zar l:=rfl;have e2 : (zgE p).length = p.args.length:=a _ 0;rw [e,yd,e2,ye];omega
theorem zl2 (o : POp) (i at' : Int) : ∀ (l : List (Int × Int)) (k : Nat),(zM o i at' k l).length = l.length
 | [],_ => rfl
 | s :: r,k => by rw [zM,ye,zl2 o i at' r,ye]
theorem zr4 (i : Int) : ∀ (l : List POp) (k : Nat),(∀ o ∈ l,o.args.length ≤ 64) → (zo i k l).length ≤ 64 * l.length
 | [],_,_ => by simp [zo]
 | o :: l,k,h => by
   have c:=zr4 i l (k + 1) fun q a => h q (yk _ a);have d:=h o yn;have b:=zoq o;have e2 : (zkl o i (k : Int)).length = (zaN o).length:=zl2 _ _ _ _ _;rw [zo,yd,e2,ye];omega
theorem zqf (f : PFunc) : ∀ (l : List PBlock) (k : Nat),(∀ b ∈ l,zsc b = true) → (zas f k l).length ≤ 64 * (l.map fun b => b.phis.length + b.ops.length).sum + l.length
 | [],_,_ => by simp [zas]
 | b :: l,k,h => by
   have e:=zqf f l (k + 1) fun q c => h q (yk _ c);obtain ⟨d,a⟩:=zrD (h b yn);have e1:=zp1 b.phis d;have e2:=zr4 (k : Int) b.ops 0 a
   have e3 : (zbE f k b).length ≤ 1:=by
    unfold zbE;split <;> simp
   rw [zas,zgT,yd,yd,yd,yu,yv,ye];omega
theorem zCz {f : PFunc} (h : zmQ f = true) : (zfJ f).length ≤ 40000:=by
 obtain ⟨e,c,d,b,a⟩:=zi4 h;have:=zqf f f.blocks 0 a;unfold ziX at b;unfold zfJ;omega
theorem zD1 {f : PFunc} (h : zmQ f = true) : (zN f).length ≤ 600:=by
 obtain ⟨g,c,d,a,e⟩:=zi4 h
 have key : ∀ (l : List PBlock) (k : Nat),(zL k l).length ≤ (l.map fun b => b.phis.length + b.ops.length).sum:=by
  intro l
  induction l with
  | nil => intro k; simp [zL]
  | cons b l ih =>
    intro k;have:=zjJ (k : Int) b.ops 0;have:=ih (k + 1);rw [zL,yd,yd,yu,yv];simp only [zc0,ya];omega
 have:=key f.blocks 0;unfold ziX at a;rw [zN,yd,zhg];omega
theorem zlS (pred : List (List Int)) (reach : List Bool) : ∀ (l : List PBlock) (i : Nat),zbD pred reach i l = true → ∀ b ∈ l,∃ j,zkV pred reach j b = true
 | [],_,_ => by simp
 | b :: l,i,h => by
   rw [zbD,yb] at h;intro c a;rcases yA.1 a with rfl | a
   ·exact ⟨i,h.1⟩
   ·exact zlS pred reach l (i + 1) h.2 c a
theorem zCt {f : PFunc} (h : zg2 f = true) : ∀ b ∈ f.blocks,zkq b:=fun b d => by
 unfold zg2 at h;rw [yb] at h;obtain ⟨j,a⟩:=zlS _ _ _ _ h.2 b d;unfold zkV at a;simp only [yb,yl] at a;refine ⟨fun p c => ?_,fun o _ => zoq o⟩;have:=a.2.2 p c;unfold ziH at this;simp only [yb,decide_eq_true_eq] at this;exact this.2
def zfg (f : PFunc) : List Use:=(zfJ f).map z8
def zac (f : PFunc) (level : Int) : Int :=
 if level < 0 ∨ 2 < level then 1 else if zmQ f = false then 4 else if zg2 f = false then 5 else if zgc f level = false then 6 else
 if zgm (zN f) 0 (zN f) = false then 7 else if (zfg f).all (zk8 (zN f)) = false then 7 else if (zfg f).all (sameShape (zN f)) = false then 6 else
 if (zfg f).all (zhd (zN f) (zfA (zq f) 0)) = false then 7 else 0
theorem zGp {f : PFunc} {level : Int} (h : zgc f level = true) : ¬ f.ret = 0:=by
 unfold zgc at h;rw [yb] at h;have:=zdg h.1;omega
set_option maxRecDepth 10000 in
theorem ztN (f : PFunc) (p : okF f) (level : Int) : call T 30 [zd4 f,vI level] [] = some (vI (zac f level),[]):=by
 rw [ze (fn:=zm) rfl]
 by_cases c1 : level < 0
 ·have e : zac f level = 1:=by unfold zac; rw [if_pos (.inl c1)]
  rw [e];simp -implicitDefEqProofs only [go_sem,zm,eq_true c1]
 by_cases c2 : 2 < level
 ·have e : zac f level = 1:=by unfold zac; rw [if_pos (.inr c2)]
  have c : level > 2:=c2;rw [e];simp -implicitDefEqProofs only [go_sem,zm,c1,eq_true c]
 have c : ¬ level > 2:=c2;have P : level = 0 ∨ level = 1 ∨ level = 2:=by omega
 have z:=zwd f p;cases m : zmQ f
 ·have e : zac f level = 4:=by unfold zac; rw [if_neg (by omega),if_pos m]
  simp -implicitDefEqProofs only [go_sem,m] at z;rw [e];simp -implicitDefEqProofs only [go_sem,zm,c1,c,z]
 simp -implicitDefEqProofs only [go_sem,m] at z;have A:=zsT f p;cases s : zg2 f
 ·have e : zac f level = 5:=by unfold zac; rw [if_neg (by omega),if_neg (by simp [m]),if_pos s]
  simp -implicitDefEqProofs only [go_sem,s] at A;rw [e];simp -implicitDefEqProofs only [go_sem,zm,c1,c,z,A]
 simp -implicitDefEqProofs only [go_sem,s] at A;have E:=ztM f p level P;cases t : zgc f level
 ·have e : zac f level = 6:=by unfold zac; rw [if_neg (by omega),if_neg (by simp [m]),if_neg (by simp [s]),if_pos t]
  simp -implicitDefEqProofs only [go_sem,t] at E;rw [e];simp -implicitDefEqProofs only [go_sem,zm,c1,c,z,A,E]
 simp -implicitDefEqProofs only [go_sem,t] at E;obtain ⟨n1,n64,Z,M,nb⟩:=zi4 m;have V:=zD1 m;have U:=zCz m;have K:=ztX f p (by unfold ziX at M; omega)
 have Q : ∀ b ∈ f.blocks,b.ops.length ≤ 1048576:=fun b W => by
  have B : b.phis.length + b.ops.length ≤ (f.blocks.map fun b => b.phis.length + b.ops.length).sum:=by
   have key : ∀ l : List PBlock,b ∈ l → b.phis.length + b.ops.length ≤ (l.map fun b => b.phis.length + b.ops.length).sum:=by
    intro l
    induction l with
    | nil => intro h; cases h
    | cons a l ih =>
      intro h;simp only [yu,yv];rcases yA.1 h with rfl | h
      ·omega
      ·have:=ih h; omega
   exact key _ W
  unfold ziX at M;omega
 have I:=zvo f p (zGp t) (zCt s) Q (by omega);have H : (zfg f).length ≤ 4294967296:=by unfold zfg; rw [ya]; omega
 have O : (zfJ f).map z8 = zfg f:=rfl;rw [O] at I;have D:=fun a0 a1 a3 a6 a7 a8 a9 y k v o i q d n g j a20 w a22 a23 a24 a25 a26 => zyC f p (zN f) (by omega) (zN f).length 0 a0 a1 a3 a6 a7 a8 a9 y k v o i q d n g j a20 w a22 a23 a24 a25 a26 (by omega) (by omega);have B:=fun a0 a1 a3 a5 a8 a9 y k v o i q d n g j a20 w a22 a23 a24 a25 a26 => zyU f p (zN f) (zfg f) (by omega) H (zfg f).length 0 a0 a1 a3 a5 a8 a9 y k v o i q d n g j a20 w a22 a23 a24 a25 a26 (by omega) (by omega);simp only [yf,yj] at D B;simp -implicitDefEqProofs only [go_sem] at K I
 have X : ∀ x,(if level < 0 ∨ 2 < level then (1 : Int) else if zmQ f = false then 4 else if zg2 f = false then 5 else if zgc f level = false then 6 else x) = x:=fun x => by
  rw [if_neg (by omega),if_neg (by simp [m]),if_neg (by simp [s]),if_neg (by simp [t])]
 have e0 : zac f level = (if zgm (zN f) 0 (zN f) = false then 7 else if (zfg f).all (zk8 (zN f)) = false then 7 else if (zfg f).all (sameShape (zN f)) = false then 6 else
  if (zfg f).all (zhd (zN f) (zfA (zq f) 0)) = false then 7 else 0):=by unfold zac; exact X _
 rw [e0];cases d0 : zgm (zN f) 0 (zN f)
 ·simp -implicitDefEqProofs only [go_sem,zi2,d0,yh] at D
  simp -implicitDefEqProofs only [go_sem,zm,c1,c,z,A,E,K,D]
 simp -implicitDefEqProofs only [go_sem,zi2,d0] at D;cases d1 : (zfg f).all (zk8 (zN f))
 ·simp -implicitDefEqProofs only [go_sem,zi2,d1,yh] at B
  simp -implicitDefEqProofs only [go_sem,zm,c1,c,z,A,E,K,D,I,B]
 simp -implicitDefEqProofs only [go_sem,zi2,d1] at B;have C : ∀ u ∈ zfg f,zk8 (zN f) u = true:=yl.1 d1;have J:=fun a0 a1 a3 a5 a7 a9 y k v o i q d n g j a20 w a22 a23 a24 a25 a26 => zxY f p (zN f) (zfg f) (by omega) H C (zfg f).length 0 a0 a1 a3 a5 a7 a9 y k v o i q d n g j a20 w a22 a23 a24 a25 a26 (by omega) (by omega);simp only [yf,yj] at J;cases d2 : (zfg f).all (sameShape (zN f))
 ·simp -implicitDefEqProofs only [go_sem,zi2,d2,yh] at J
  simp -implicitDefEqProofs only [go_sem,zm,c1,c,z,A,E,K,D,I,B,J]
 simp -implicitDefEqProofs only [go_sem,zi2,d2] at J
 have S : zaI f = true:=by
  unfold zg2 at s;rw [yb] at s;exact s.1
 have hm:=zf5 S;have Y : (zq f).length = f.blocks.length:=by simp [zq]
 have R:=zr9 f p;have G:=zuo (zq f) (zi6 p) hm 0 (by omega);have N : (zfA (zq f) 0).length ≤ 4294967296:=by simp [zfA]; omega
 obtain ⟨r,L⟩:=zyk f p (zN f) (zfg f) (by omega) H C (zfA (zq f) 0) N (.sl ((zq f).map rl)) (.sl ((zR (zq f)).map rl)) (zfg f).length 0 (by omega) (by omega);simp only [yf,yj] at L;simp -implicitDefEqProofs only [go_sem,zhk,S] at R;simp -implicitDefEqProofs only [go_sem] at G;cases d3 : (zfg f).all (zhd (zN f) (zfA (zq f) 0))
 ·simp -implicitDefEqProofs only [go_sem,zi2,d3,yh] at L
  simp -implicitDefEqProofs only [go_sem,zm,c1,c,z,A,E,K,D,I,B,J,R,G,L]
 ·simp -implicitDefEqProofs only [go_sem,zi2,d3] at L
  simp -implicitDefEqProofs only [go_sem,zm,c1,c,z,A,E,K,D,I,B,J,R,G,L]
end AC
namespace AC
open Dm
section
variable {succ : List (List Int)} {root : Nat} {O : Int → Prop} {pos : Int → Nat} {t : List Int} (Q : TreeOf succ root O pos t)
include Q
theorem zoh : (root : Int) < (succ.length : Int):=(Q.rng _ Q.ord.rt).2
theorem zq2 {x : Int} (a : 0 ≤ x) : tr (t.set root (-1)) x = if x = (root : Int) then -1 else tr t x:=by
 have:=zxg (t:=t) (x:=(root : Int)) (-1) ⟨by omega,by rw [Q.len]; exact zoh Q⟩ a
 rwa [yo] at this
theorem zH9 {x : Int} (h : O x) : tf t x ≠ -2:=zFb Q.ord Q.inv Q.st h
theorem zuE {x : Int} (h : O x) (b : x ≠ (root : Int)) : tr (t.set root (-1)) x = tf t x ∧ O (tf t x) ∧ pos (tf t x) < pos x ∧ tf t x ≠ -1:=by
 have rx:=Q.rng x h;obtain ⟨d,c⟩:=Q.inv.par x b (zH9 Q h);have a:=zkc Q.ord Q.inv d;exact ⟨by rw [zq2 Q rx.1,if_neg b,zvB rx.1],a,c,by have:=(Q.rng _ a).1; omega⟩
theorem zBk {x : Int} (h : ¬ O x) (h0 : 0 ≤ x) : tr (t.set root (-1)) x = -2:=by
 rw [zq2 Q h0,if_neg (by rintro rfl; exact h Q.ord.rt),← zvB h0];exact Q.inv.out x h
theorem zl7 : (t.set root (-1)).length = succ.length:=by simp [Q.len]
theorem zHl : ∀ (r : Nat) (x k : Int),O x → pos x < r → ∃ m,zab (t.set root (-1)) r k x = some m ∧ k ≤ m:=by
 intro r
 induction r with
 | zero => intro x k _ h; omega
 | succ r ih =>
   intro x k a g;have rx:=Q.rng x a;rw [zab,if_neg (by omega),if_neg (by rw [zl7 Q]; omega)]
   by_cases c : x = (root : Int)
   ·rw [if_pos (by rw [zq2 Q rx.1,if_pos c])]
    exact ⟨k,rfl,Int.le_refl _⟩
   ·obtain ⟨d,b,f,e⟩:=zuE Q a c
    rw [d,if_neg e];obtain ⟨m,m1,m2⟩:=ih _ (k + 1) b (by omega);exact ⟨m,m1,by omega⟩
theorem zrx {x : Int} (h : O x) : 0 ≤ zE (t.set root (-1)) x:=by
 obtain ⟨m,b,a⟩:=zHl Q (t.set root (-1)).length x 0 h (by rw [zl7 Q]; exact Q.low x h);rw [zE,b];exact a
theorem zGF {x : Int} (h : ¬ O x) : zE (t.set root (-1)) x < 0:=by
 by_cases c : 0 ≤ zE (t.set root (-1)) x
 ·have r:=zhR c
  have e:=zBk Q h r.1
  by_cases z : zE (t.set root (-1)) x = 0
  ·have:=zhN z
   omega
  ·have:=zf0 c (by omega)
   rw [e] at this;have b:=zhR (t:=t.set root (-1)) (a:=-2) (by omega);omega
 ·omega
theorem zzU (x : Int) : 0 ≤ zE (t.set root (-1)) x ↔ O x:=by
 by_cases h : O x
 ·exact ⟨fun _ => h,fun _ => zrx Q h⟩
 ·exact ⟨fun c => absurd c (by have:=zGF Q h; omega),fun c => absurd c h⟩
omit Q in
theorem zo5 {tree : List Int} : ∀ (l : List Int) (k m : Nat),(∀ j x,l[j]? = some x → x ≠ -2 → 0 ≤ zE tree ((k + j : Nat) : Int)) → zaP tree k m l = some (m + l.count (-1))
 | [],_,_,_ => by simp [zaP]
 | x :: l,k,m,h => by
   have hr:=fun m' => zo5 l (k + 1) m' fun j y hj hy => by
    have:=h (j + 1) y (by simpa using hj) hy
    rwa [show k + (j + 1) = k + 1 + j by omega] at this
   rw [zaP]
   by_cases c : x = -2
   ·rw [if_pos c,hr m,c]
    rw [yw];simp
   ·have h0:=h 0 x rfl c
    rw [yy] at h0;rw [if_neg c,if_neg (by omega),hr _,yw]
    by_cases d : x = -1
    ·rw [if_pos d]
     simp [d];omega
    ·rw [if_neg d]
     simp [d]
theorem zwG : zhh (t.set root (-1)) = true:=by
 have h:=zo5 (tree:=t.set root (-1)) (t.set root (-1)) 0 0 fun j x hj b => by
  rw [Nat.zero_add,zzU Q]
  by_cases c : O (j : Int)
  ·exact c
  ·have:=zBk Q c (by omega)
   unfold tr at this;rw [yo,ym,hj] at this;exact absurd this b
 have a : root < t.length:=by have:=zoh Q; rw [Q.len]; omega
 have h0 : t.count (-1) = 0:=by
  rw [List.count_eq_zero];intro hm;obtain ⟨j,hj⟩:=List.mem_iff_getElem?.1 hm
  have e : tf t (j : Int) = -1:=by
   rw [zvB (by omega)];unfold tr;rw [yo,ym,hj];rfl
  have d : tf t (j : Int) ≠ -2:=by rw [e]; omega
  by_cases c : (j : Int) = (root : Int)
  ·rw [c,Q.inv.rt] at e
   omega
  ·exact (zuE Q (zkc Q.ord Q.inv d) c).2.2.2 e
 have f : (t.set root (-1)).count (-1) = 1:=by
  rw [List.count_set a,h0];simp
 unfold zhh;rw [h,f];rfl
theorem zpC {y x : Int} (h : Anc (root : Int) (tf t) y x) (b : O x) : O y ∧ (y = x ∨ zE (t.set root (-1)) y < zE (t.set root (-1)) x):=by
 induction h with
 | refl => exact ⟨b,.inl rfl⟩
 | step n h ih =>
   rename_i x;obtain ⟨c,e,g,f⟩:=zuE Q b n;obtain ⟨d,a⟩:=ih e;have:=zf0 (zrx Q b) (by rw [c]; exact f);rw [c] at this;refine ⟨d,.inr ?_⟩;rcases a with a | a
   ·rw [a]; omega
   ·omega
theorem zo1 : ∀ (r : Nat) (a b : Int),O a → O b → zE (t.set root (-1)) a + zE (t.set root (-1)) b ≤ r → O (zjF (t.set root (-1)) r a b) ∧ ∀ y,Anc (root : Int) (tf t) y (zjF (t.set root (-1)) r a b) ↔ Anc (root : Int) (tf t) y a ∧ Anc (root : Int) (tf t) y b:=by
 have rt : ∀ a,O a → zE (t.set root (-1)) a = 0 → a = (root : Int):=fun a f h => by
  by_cases c : a = (root : Int)
  ·exact c
  ·obtain ⟨k,_,_,u⟩:=zuE Q f c
   rw [zhN h] at k;exact absurd k.symm u
 intro r
 induction r with
 | zero =>
   intro a b f i h;have k:=zrx Q f;have q:=zrx Q i;have e1:=rt a f (by omega);have e2:=rt b i (by omega);subst e1 e2;exact ⟨f,fun y => ⟨fun h => ⟨h,h⟩,fun h => h.1⟩⟩
 | succ r ih =>
   intro a b f i h;have k:=zrx Q f;have q:=zrx Q i;rw [zjF]
   by_cases c : a = b
   ·subst c
    rw [if_pos rfl];exact ⟨f,fun y => ⟨fun h => ⟨h,h⟩,fun h => h.1⟩⟩
   ·rw [if_neg c]
    by_cases d : zE (t.set root (-1)) b ≤ zE (t.set root (-1)) a
    ·rw [if_pos d]
     have hr : a ≠ (root : Int):=by
      rintro rfl;have e0:=zlk (t:=t.set root (-1)) (a:=(root : Int)) (by omega) (by rw [zl7 Q]; exact zoh Q) (by rw [zq2 Q (by omega),if_pos rfl]);exact c (rt b i (by omega)).symm
     obtain ⟨l,m,s,p⟩:=zuE Q f hr;have ds:=zf0 k (by rw [l]; exact p);rw [l] at ds ⊢;obtain ⟨o,n⟩:=ih _ b m i (by omega);refine ⟨o,fun y => ?_⟩;rw [n y];constructor
     ·rintro ⟨g,j⟩
      exact ⟨.step hr g,j⟩
     ·rintro ⟨g,j⟩
      refine ⟨(zo0 g ?_).2,j⟩;rintro rfl;rcases (zpC Q j i).2 with e | e
      ·exact c e
      ·omega
    ·rw [if_neg d]
     have hr : b ≠ (root : Int):=by
      rintro rfl;have e0:=zlk (t:=t.set root (-1)) (a:=(root : Int)) (by omega) (by rw [zl7 Q]; exact zoh Q) (by rw [zq2 Q (by omega),if_pos rfl]);omega
     obtain ⟨l,m,s,p⟩:=zuE Q i hr;have ds:=zf0 q (by rw [l]; exact p);rw [l] at ds ⊢;obtain ⟨o,n⟩:=ih a _ f m (by omega);refine ⟨o,fun y => ?_⟩;rw [n y];constructor
     ·rintro ⟨g,j⟩
      exact ⟨g,.step hr j⟩
     ·rintro ⟨g,j⟩
      refine ⟨g,(zo0 j ?_).2⟩;rintro rfl;rcases (zpC Q g f).2 with e | e
      ·exact c e.symm
      ·omega
theorem zEU (a b : Int) : inS (t.set root (-1)) [a,b] = true ↔ O a ∧ O b:=by
 unfold inS;rw [zwG Q];have d:=zzU Q a;have c:=zzU Q b;simp only [yz,List.any_cons,List.any_nil,Bool.or_false,yt,ys,decide_eq_false_iff_not];rw [← d,← c];omega
theorem zw2 (a b : Int) : zlP (t.set root (-1)) a b = true ↔ O a ∧ O b ∧ Anc (root : Int) (tf t) a b:=by
 unfold zlP;rw [yb,zEU Q,decide_eq_true_eq];constructor
 ·rintro ⟨⟨c,d⟩,h⟩
  have f:=zo1 Q _ a b c d (by have:=zrx Q c; have:=zrx Q d; omega : zE (t.set root (-1)) a + zE (t.set root (-1)) b ≤ ((zE (t.set root (-1)) a + zE (t.set root (-1)) b).toNat : Int));rw [zyw,if_pos ((zEU Q a b).2 ⟨c,d⟩)] at h;rw [h] at f;exact ⟨c,d,((f.2 a).1 (.refl _)).2⟩
 ·rintro ⟨c,d,h⟩
  refine ⟨⟨c,d⟩,?_⟩;have f:=zo1 Q _ a b c d (by have:=zrx Q c; have:=zrx Q d; omega : zE (t.set root (-1)) a + zE (t.set root (-1)) b ≤ ((zE (t.set root (-1)) a + zE (t.set root (-1)) b).toNat : Int));rw [zyw,if_pos ((zEU Q a b).2 ⟨c,d⟩)];have i:=(f.2 a).2 ⟨.refl _,h⟩;have g:=((f.2 _).1 (.refl _)).1;rcases (zpC Q i f.1).2 with e | e
  ·exact e.symm
  ·rcases (zpC Q g c).2 with e2 | e2
   ·exact e2
   ·omega
theorem zCP (a b : Int) : zlP (t.set root (-1)) a b = true ↔ O a ∧ O b ∧ Dom (Eg succ) (root : Int) a b:=by
 rw [zw2 Q];constructor
 ·rintro ⟨e,c,d⟩
  exact ⟨e,c,(zwB Q.ord Q.inv Q.st c).1 d⟩
 ·rintro ⟨e,c,d⟩
  exact ⟨e,c,(zwB Q.ord Q.inv Q.st c).2 d⟩
end
end AC

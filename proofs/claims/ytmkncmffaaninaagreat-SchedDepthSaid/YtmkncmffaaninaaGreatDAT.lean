/- A part of the proof of SchedDepth. Conditions: none. -/
import Derived.Test.YtmkncmffaaninaaGreatDAS
set_option linter.unusedVariables false
set_option linter.unusedSimpArgs false
set_option linter.unusedSectionVars false
open List renaming length_map → ya,drop_eq_getElem_cons → yb,drop_length → yd,find?_cons → yg,getElem?_eq_some_iff → yh,length_replicate → yj,drop_zero → yk,all_cons → ym,range → yn,range_succ → yp,all_nil → yq,take_succ_cons → yr,getElem_mem → yu,map_append → yv,find?_nil → yw,map_cons → yx,sum_cons → yy,mem_cons → yz,map_nil → yA
open Bool renaming and_eq_true → yc,and_true → yi,or_eq_false_iff → yl,and_eq_false_iff → yo,and_false → ys
open Int renaming lt_irrefl → ye,natCast_zero → yf,reduceEq → yt
namespace AC
open Go Go.A Go.A.Lex
def zhy (p : PPhi) : Bool:=(num p.bits && num p.dst) && (zfI p.src && zfI p.args)
def zkR (o : POp) : Bool:=(num o.kind && (num o.bits && (num o.lanes && num o.dst))) && zfI o.args
def zo4 (b : PBlock) : Bool:=(num b.kind && num b.arg) && zfI b.to
def zqz (b : PBlock) : Bool:=b.phis.all zhy && (b.ops.all zkR && zo4 b)
def zEf (p : PPhi) : Prop:=p.src.length ≤ 4294967296 ∧ p.args.length ≤ 4294967296
def zuV (o : POp) : Prop:=zDW o ∧ o.args.length ≤ 4294967296
structure okB (b : PBlock) : Prop where
 phis : b.phis.length ≤ 4294967296
 ops : b.ops.length ≤ 4294967296
 phi : ∀ p ∈ b.phis,zEf p
 op : ∀ o ∈ b.ops,zuV o
 to : b.to.length ≤ 4294967296
theorem zoI (a : List Int) (ha : a.length ≤ 4294967296) : call T 194 [vL [[eI a]]] [] = some (vB (zfI a),[]):=by
 have:=zjz [a] (by simp) (by simpa using ha)
 simpa only [vLs,yx,yA,rl,ym,yq,yi] using this
theorem zt0 (a b : List Int) (ha : a.length ≤ 4294967296) (hb : b.length ≤ 4294967296) : call T 194 [vL [[eI a],[eI b]]] [] = some (vB (zfI a && zfI b),[]):=by
 have:=zjz [a,b] (by simp) (by simpa using ⟨ha,hb⟩)
 simpa only [vLs,yx,yA,rl,ym,yq,yi] using this
section
variable (b : PBlock) (hb : okB b)
include hb
theorem zud : ∀ (d k : Nat) (a0 a2 a3 a4 a8 a9 a10 a11 a12 a13 a14 : V),b.phis.length - k = d → k ≤ b.phis.length →
  exec T ze2 ⟨[a0,.one (.ptr 0 0 0 0),a2,a3,a4,vL (b.phis.map rp),vI b.phis.length,vI k,a8,a9,a10,a11,a12,a13,a14],[.cells 0 5 [zq b]],0,0⟩ =
   some (match (b.phis.drop k).find? (fun x => !zhy x) with | none => (.exit 0,⟨[vU,.one (.ptr 0 0 0 0),vU,vU,vU,vU,vU,vU,vU,vU,vU,vU,vU,vU,vU],[.cells 0 5 [zq b]],0,0⟩) | some x => (.ret,⟨[vU,vU,vB false,vU,vU,vU,vU,vU,vU,vU,vU,vU,vU,vU,vU],[.cells 0 5 [zq b],.cells 0 4 [zub x]],0,0⟩)):=by
 intro d
 induction d with
 | zero =>
   intro k a0 a2 a3 a4 a8 a9 a10 a11 a12 a13 a14 h1 h2
   have hk : k = b.phis.length:=by omega
   subst hk
   rw [xl ze2 rfl,zgj]
   simp -implicitDefEqProofs only [go_sem,ye,yd,yw]
 | succ d ih =>
   intro k a0 a2 a3 a4 a8 a9 a10 a11 a12 a13 a14 h1 h2
   have hk : k < b.phis.length:=by omega
   have hd : b.phis.drop k = b.phis[k] :: b.phis.drop (k + 1):=yb hk
   have ho:=hb.phi _ (yu hk)
   have c1:=zlC b.phis[k].bits b.phis[k].dst
   have c2:=zt0 b.phis[k].src b.phis[k].args ho.1 ho.2
   rw [xl ze2 rfl,zgj,hd]
   cases e1 : (num b.phis[k].bits && num b.phis[k].dst)
   ·simp -implicitDefEqProofs only [go_sem,e1] at c1 c2
    simp -implicitDefEqProofs only [go_sem,ilt hk,zp hk,rp,c1,c2,zhy,yg,e1]
   ·cases e2 : (zfI b.phis[k].src && zfI b.phis[k].args)
    ·simp -implicitDefEqProofs only [go_sem,e1,e2] at c1 c2
     simp -implicitDefEqProofs only [go_sem,ilt hk,zp hk,rp,c1,c2,zhy,yg,e1,e2]
    ·simp -implicitDefEqProofs only [go_sem,e1,e2] at c1 c2
     simp -implicitDefEqProofs only [go_sem,ilt hk,zp hk,rp,c1,c2,zhy,yg,e1,e2,za hk hb.phis]
     exact ih (k + 1) _ _ _ _ _ _ _ _ _ _ _ (by omega) (by omega)
theorem zum : ∀ (d k : Nat) (a0 a2 a3 a4 a5 a6 a7 a8 a9 a13 a14 : V),b.ops.length - k = d → k ≤ b.ops.length →
  exec T ze1 ⟨[a0,.one (.ptr 0 0 0 0),a2,a3,a4,a5,a6,a7,a8,a9,vL (b.ops.map ro),vI b.ops.length,vI k,a13,a14],[.cells 0 5 [zq b]],0,0⟩ =
   some (match (b.ops.drop k).find? (fun x => !zkR x) with | none => (.exit 2,⟨[vU,.one (.ptr 0 0 0 0),vU,vU,vU,vU,vU,vU,vU,vU,vU,vU,vU,vU,vU],[.cells 0 5 [zq b]],0,0⟩) | some x => (.ret,⟨[vU,vU,vB false,vU,vU,vU,vU,vU,vU,vU,vU,vU,vU,vU,vU],[.cells 0 5 [zq b],.cells 0 6 [cOp x]],0,0⟩)):=by
 intro d
 induction d with
 | zero =>
   intro k a0 a2 a3 a4 a5 a6 a7 a8 a9 a13 a14 h1 h2
   have hk : k = b.ops.length:=by omega
   subst hk
   rw [xl ze1 rfl,zgi]
   simp -implicitDefEqProofs only [go_sem,ye,yd,yw]
 | succ d ih =>
   intro k a0 a2 a3 a4 a5 a6 a7 a8 a9 a13 a14 h1 h2
   have hk : k < b.ops.length:=by omega
   have hd : b.ops.drop k = b.ops[k] :: b.ops.drop (k + 1):=yb hk
   have ho:=hb.op _ (yu hk)
   have c1:=zri b.ops[k].kind b.ops[k].bits b.ops[k].lanes b.ops[k].dst
   have c2:=zoI b.ops[k].args ho.2
   rw [xl ze1 rfl,zgi,hd]
   cases e1 : (num b.ops[k].kind && (num b.ops[k].bits && (num b.ops[k].lanes && num b.ops[k].dst)))
   ·simp -implicitDefEqProofs only [go_sem,e1] at c1 c2
    simp -implicitDefEqProofs only [go_sem,ilt hk,zp hk,ro,c1,c2,zkR,yg,e1]
   ·cases e2 : zfI b.ops[k].args
    ·simp -implicitDefEqProofs only [go_sem,e1,e2] at c1 c2
     simp -implicitDefEqProofs only [go_sem,ilt hk,zp hk,ro,c1,c2,zkR,yg,e1,e2]
    ·simp -implicitDefEqProofs only [go_sem,e1,e2] at c1 c2
     simp -implicitDefEqProofs only [go_sem,ilt hk,zp hk,ro,c1,c2,zkR,yg,e1,e2,za hk hb.ops]
     exact ih (k + 1) _ _ _ _ _ _ _ _ _ _ _ (by omega) (by omega)
set_option maxRecDepth 10000 in
@[go_sem] theorem zrK : call T 155 [zoA b] [] = some (vB (zqz b),[]):=by
  rw [ze (fn:=zcR) rfl]
  have h0:=fun a0 a2 a3 a4 a8 a9 a10 a11 a12 a13 a14 => zud b hb b.phis.length 0 a0 a2 a3 a4 a8 a9 a10 a11 a12 a13 a14 (by omega) (by omega)
  have h1:=fun a0 a2 a3 a4 a5 a6 a7 a8 a9 a13 a14 => zum b hb b.ops.length 0 a0 a2 a3 a4 a5 a6 a7 a8 a9 a13 a14 (by omega) (by omega)
  have c1:=zlC b.kind b.arg
  have c2:=zoI b.to hb.to
  simp only [yk,yf] at h0 h1
  cases e1 : b.phis.find? (fun x => !zhy x) with
  | some x =>
    have a1:=zeQ e1
    simp -implicitDefEqProofs only [go_sem,e1] at h0
    simp -implicitDefEqProofs only [go_sem,zcR,h0,zqz,a1]
  | none =>
  have a1:=zeU e1
  cases e2 : b.ops.find? (fun x => !zkR x) with
  | some x =>
    have a2:=zeQ e2
    simp -implicitDefEqProofs only [go_sem,e1,e2] at h0 h1
    simp -implicitDefEqProofs only [go_sem,zcR,h0,h1,zqz,a1,a2]
  | none =>
  have a2:=zeU e2
  simp -implicitDefEqProofs only [go_sem,e1,e2] at h0 h1
  cases e3 : (num b.kind && num b.arg)
  ·simp -implicitDefEqProofs only [go_sem,e3] at c1 c2
   simp -implicitDefEqProofs only [go_sem,zcR,h0,h1,c1,c2,zqz,zo4,a1,a2,e3]
  ·simp -implicitDefEqProofs only [go_sem,e3] at c1 c2
   simp -implicitDefEqProofs only [go_sem,zcR,h0,h1,c1,c2,zqz,zo4,a1,a2,e3]
end
@[go_sem] theorem zox (b : PBlock) (hb : okB b) (σ : zd) (hσ : Obs.lt σ.length σ = true) : call T 154 [zoA b] σ = some (vB (!zqz b),σ):=by
  rw [ze (fn:=zjc) rfl]
  have h:=zrK b hb
  simp -implicitDefEqProofs only [go_sem] at h
  simp -implicitDefEqProofs only [go_sem,zjc,h,hσ]
structure okF (f : PFunc) : Prop where
 params : f.params.length ≤ 4294967296
 blocks : f.blocks.length ≤ 4294967296
 block : ∀ b ∈ f.blocks,okB b
 small : (f.blocks.map fun b => b.phis.length + b.ops.length).sum ≤ 4294967296
def zhX (f : PFunc) : Nat:=f.blocks.length + (f.blocks.map fun b => b.phis.length + b.ops.length).sum
theorem zoU (l : List Nat) : ∀ k,(l.take k).sum ≤ l.sum:=by
 induction l with
 | nil => simp
 | cons x r ih =>
   intro k
   cases k with
   | zero => simp
   | succ k =>
     simp only [yr,yy]
     have:=ih k
     omega
theorem zmj (l : List Nat) (k : Nat) (hk : k < l.length) : (l.take (k + 1)).sum = (l.take k).sum + l[k]:=by
 induction l generalizing k with
 | nil => simp at hk
 | cons x r ih =>
   cases k with
   | zero => simp
   | succ k =>
     simp only [yr,yy,List.getElem_cons_succ]
     rw [ih k (by simpa using hk)]
     omega
theorem zzi (f : PFunc) (hf : okF f) : ∀ (d k : Nat) (a0 a1 a2 a4 a8 : V),f.blocks.length - k = d → k ≤ f.blocks.length →
  exec T zhz ⟨[a0,a1,a2,vI ((f.blocks.length + ((f.blocks.map fun b => b.phis.length + b.ops.length).take k).sum : Nat) : Int),a4,vL (f.blocks.map rb),vI f.blocks.length,vI k,a8],[.cells 0 3 [zcJ f]],0,0⟩ =
   some (.exit 0,⟨[vU,vU,vU,vI (zhX f : Int),vU,vU,vU,vU,vU],[.cells 0 3 [zcJ f]],0,0⟩):=by
 intro d
 induction d with
 | zero =>
   intro k a0 a1 a2 a4 a8 h1 h2
   have hk : k = f.blocks.length:=by omega
   subst hk
   rw [xl zhz rfl,zjU]
   have e : (f.blocks.map fun b => b.phis.length + b.ops.length).take f.blocks.length = f.blocks.map fun b => b.phis.length + b.ops.length:=List.take_of_length_le (by simp)
   simp -implicitDefEqProofs only [go_sem,ye,e,zhX]
 | succ d ih =>
   intro k a0 a1 a2 a4 a8 h1 h2
   have hk : k < f.blocks.length:=by omega
   have hk' : k < (f.blocks.map fun b => b.phis.length + b.ops.length).length:=by simpa using hk
   have e:=zmj (f.blocks.map fun b => b.phis.length + b.ops.length) k hk'
   have e2:=zoU (f.blocks.map fun b => b.phis.length + b.ops.length) (k + 1)
   have e3:=hf.small
   have e4:=hf.blocks
   simp only [List.getElem_map] at e
   have w1 : Go.IntKind.i64.wrap ((f.blocks[k].phis.length : Int) + (f.blocks[k].ops.length : Int)) = ((f.blocks[k].phis.length + f.blocks[k].ops.length : Nat) : Int):=by
    rw [wrap_i64] <;> omega
   have w2 : Go.IntKind.i64.wrap (((f.blocks.length + ((f.blocks.map fun b => b.phis.length + b.ops.length).take k).sum : Nat) : Int) + ((f.blocks[k].phis.length + f.blocks[k].ops.length : Nat) : Int)) = ((f.blocks.length + ((f.blocks.map fun b => b.phis.length + b.ops.length).take (k + 1)).sum : Nat) : Int):=by
    rw [wrap_i64] <;> omega
   rw [xl zhz rfl,zjU]
   simp -implicitDefEqProofs only [go_sem,ilt hk,zp hk,rb,w1,w2,za hk hf.blocks]
   exact ih (k + 1) _ _ _ _ _ (by omega) (by omega)
@[go_sem] theorem zpJ (f : PFunc) (hf : okF f) : call T 151 [zgS f] [] = some (vI (zhX f : Int),[]):=by
  rw [ze (fn:=zkS) rfl]
  have h:=fun a0 a1 a2 a4 a8 => zzi f hf f.blocks.length 0 a0 a1 a2 a4 a8 (by omega) (by omega)
  simp only [List.take_zero,List.sum_nil,Nat.add_zero,yf] at h
  simp -implicitDefEqProofs only [go_sem] at h
  simp -implicitDefEqProofs only [go_sem,zkS,h]
def zlx (f : PFunc) : Bool :=
 !(decide (f.blocks.length < 1) || (decide (64 < f.blocks.length) || (decide (16 < f.params.length) || (decide (512 < zhX f) || (!num f.ret || !f.params.all num))))) && f.blocks.all zqz
@[go_sem] theorem zrV (f : PFunc) (hf : okF f) : call T 105 [zgS f] [] = some (vB (zlx f),[]):=by
  rw [ze (fn:=zew) rfl]
  have hs:=zpJ f hf
  have hi:=zse f.ret
  have hp:=zf2 f.params hf.params
  have hc:=ziz f.blocks (fun b => !zqz b) 154 [] [] [.cells 0 3 [zcJ f]] hf.blocks (fun x hx => by
   have:=zox x (hf.block x hx) [.cells 0 3 [zcJ f]] rfl
   simp -implicitDefEqProofs only [go_sem] at this
   simp -implicitDefEqProofs only [go_sem,this])
  have hp0 : f.params.length ≤ 4294967296:=hf.params
  simp -implicitDefEqProofs only [go_sem] at hs hi hc hp
  by_cases c1 : f.blocks.length < 1
  ·have c1' : (f.blocks.length : Int) < 1:=by omega
   simp -implicitDefEqProofs only [go_sem,zew,zlx,c1,c1']
  have c1' : ¬ (f.blocks.length : Int) < 1:=by omega
  by_cases c2 : 64 < f.blocks.length
  ·have c2' : (64 : Int) < (f.blocks.length : Int):=by omega
   simp -implicitDefEqProofs only [go_sem,zew,zlx,c1,c1',c2,c2']
  have c2' : ¬ (64 : Int) < (f.blocks.length : Int):=by omega
  by_cases c3 : 16 < f.params.length
  ·have c3' : (16 : Int) < (f.params.length : Int):=by omega
   simp -implicitDefEqProofs only [go_sem,zew,zlx,c1,c1',c2,c2',c3,c3']
  have c3' : ¬ (16 : Int) < (f.params.length : Int):=by omega
  by_cases c4 : 512 < zhX f
  ·have c4' : (512 : Int) < (zhX f : Int):=by omega
   simp -implicitDefEqProofs only [go_sem,zew,zlx,c1,c1',c2,c2',c3,c3',hs,c4,c4']
  have c4' : ¬ (512 : Int) < (zhX f : Int):=by omega
  cases c5 : num f.ret
  ·simp -implicitDefEqProofs only [go_sem,c5] at hi
   simp -implicitDefEqProofs only [go_sem,zew,zlx,c1,c1',c2,c2',c3,c3',hs,c4,c4',hi,c5]
  cases c6 : f.params.all num
  ·simp -implicitDefEqProofs only [go_sem,c5,c6] at hi hp
   simp -implicitDefEqProofs only [go_sem,zew,zlx,c1,c1',c2,c2',c3,c3',hs,c4,c4',hi,hp,c5,c6]
  simp -implicitDefEqProofs only [go_sem,c5,c6] at hi hp
  simp -implicitDefEqProofs only [go_sem,zew,zlx,c1,c1',c2,c2',c3,c3',hs,c4,c4',hi,hp,c5,c6,hc,zpi]
end AC
namespace AC
open Go Go.A Go.A.Lex
theorem zfJ (b : Int) : call T 125 [vI b] [] = some (vB (zhH b),[]):=by
 rw [ze (fn:=zal) rfl]
 by_cases c1 : b = 1
 ·simp -implicitDefEqProofs only [go_sem,zal,zhH,c1]
 by_cases c2 : b = 8
 ·simp -implicitDefEqProofs only [go_sem,zal,zhH,c1,c2]
 by_cases c3 : b = 16
 ·simp -implicitDefEqProofs only [go_sem,zal,zhH,c1,c2,c3]
 by_cases c4 : b = 32
 ·simp -implicitDefEqProofs only [go_sem,zal,zhH,c1,c2,c3,c4]
 by_cases c5 : b = 64 <;> simp -implicitDefEqProofs only [go_sem,zal,zhH,c1,c2,c3,c4,c5]
theorem zuR (v b : Int) (h0 : 0 ≤ v) (h1 : v < 18446744073709551616) : call T 224 [zEs v,vI b] [] = some (zEs (zx9 v b),[]):=by
 rw [ze (fn:=z6) rfl]
 have hm:=zfJ b
 have hb : Go.IntKind.u64.bits = 64:=rfl
 cases hw : zhH b
 ·simp -implicitDefEqProofs only [go_sem,hw] at hm
  simp -implicitDefEqProofs only [go_sem,z6,hm,zx9,hw]
 have t : ∀ n : Int,v.tmod n = v % n:=fun n => Int.tmod_eq_emod_of_nonneg h0
 simp -implicitDefEqProofs only [go_sem,hw] at hm
 rcases zdp hw with rfl | rfl | rfl | rfl | rfl
 ·have w1 : IntKind.u64.wrap 1 = 1:=rfl
  have w2 : IntKind.u64.wrap (1 * 2 ^ min 1 64) = 2:=rfl
  simp -implicitDefEqProofs only [go_sem,z6,hm,hb,w1,w2,t,zx9,hw]
  rfl
 ·have w1 : IntKind.u64.wrap 8 = 8:=rfl
  have w2 : IntKind.u64.wrap (1 * 2 ^ min 8 64) = 256:=rfl
  simp -implicitDefEqProofs only [go_sem,z6,hm,hb,w1,w2,t,zx9,hw]
  rfl
 ·have w1 : IntKind.u64.wrap 16 = 16:=rfl
  have w2 : IntKind.u64.wrap (1 * 2 ^ min 16 64) = 65536:=rfl
  simp -implicitDefEqProofs only [go_sem,z6,hm,hb,w1,w2,t,zx9,hw]
  rfl
 ·have w1 : IntKind.u64.wrap 32 = 32:=rfl
  have w2 : IntKind.u64.wrap (1 * 2 ^ min 32 64) = 4294967296:=rfl
  simp -implicitDefEqProofs only [go_sem,z6,hm,hb,w1,w2,t,zx9,hw]
  rfl
 ·have e : v % 2 ^ (64 : Nat) = v:=by
   show v % 18446744073709551616 = v
   omega
  simp -implicitDefEqProofs only [go_sem,z6,hm,zx9,hw,Int.reduceToNat,e]
theorem ziX (v : Int) : call T 74 [vI v] [] = some (vB (value v),[]):=by
 rw [ze (fn:=zaK) rfl]
 have e1 : (v > 0) = (1 ≤ v):=by apply propext; omega
 have e2 : (v < 1024) = (v ≤ 1023):=by apply propext; omega
 by_cases c1 : 1 ≤ v
 ·have d1 : 0 < v:=by omega
  by_cases c2 : v ≤ 1023
  ·have d2 : v < 1024:=by omega
   simp -implicitDefEqProofs only [go_sem,zaK,value,c1,c2,eq_true d1,eq_true d2]
  ·have d2 : ¬ v < 1024:=by omega
   simp -implicitDefEqProofs only [go_sem,zaK,value,c1,c2,eq_true d1,d2]
 ·have d1 : ¬ 0 < v:=by omega
  simp -implicitDefEqProofs only [go_sem,zaK,value,c1,d1]
theorem zcz (n : Int) : call T 122 [vI n] [] = some (vB (num n),[]):=by
 rw [ze (fn:=zc6) rfl]
 by_cases c1 : 0 ≤ n
 ·simp -implicitDefEqProofs only [go_sem,zc6,num,eq_true c1]
 ·simp -implicitDefEqProofs only [go_sem,zc6,num,c1]
theorem zwK (a b : List Int) (hn : a.length = b.length) (hl : a.length ≤ 4294967296) : ∀ (d k : Nat) (a2 a4 a5 a6 : V),a.length - k = d → k ≤ a.length →
  exec T zca ⟨[vIs a,vIs b,a2,vI k,a4,a5,a6],[],0,0⟩ = some (if a.drop k = b.drop k then (.exit 0,⟨[vU,vU,vU,vU,vU,vU,vU],[],0,0⟩) else (.ret,⟨[vU,vU,vB false,vU,vU,vU,vU],[],0,0⟩)):=by
 intro d
 induction d with
 | zero =>
   intro k a2 a4 a5 a6 h1 h2
   have hk : k = a.length:=by omega
   subst hk
   have e : a.drop a.length = b.drop a.length:=by rw [yd,hn,yd]
   rw [xl zca rfl,zeh,if_pos e]
   simp -implicitDefEqProofs only [go_sem,ye,ya]
 | succ d ih =>
   intro k a2 a4 a5 a6 h1 h2
   have hk : k < a.length:=by omega
   have hkb : k < b.length:=by omega
   have hd : a.drop k = a[k] :: a.drop (k + 1):=yb hk
   have hdb : b.drop k = b[k] :: b.drop (k + 1):=yb hkb
   have:=ih (k + 1) vU vU vU vU (by omega) (by omega)
   rw [xl zca rfl,zeh,hd,hdb]
   simp -implicitDefEqProofs only [go_sem] at this
   by_cases c : a[k] = b[k]
   ·simp -implicitDefEqProofs only [go_sem,ilt hk,zp hk,zp hkb,ri,ya,za hk hl,c,this,List.cons.injEq]
   ·simp -implicitDefEqProofs only [go_sem,ilt hk,zp hk,zp hkb,ri,ya,c,List.cons.injEq,false_and]
theorem zjV (a b : List Int) (hl : a.length ≤ 4294967296) : call T 22 [vIs a,vIs b] [] = some (vB (decide (a = b)),[]):=by
 rw [ze (fn:=za4) rfl]
 by_cases hn : a.length = b.length
 ·have h:=fun a2 a4 a5 a6 => zwK a b hn hl a.length 0 a2 a4 a5 a6 (by omega) (by omega)
  simp only [yf,yk] at h
  have hi : (a.length : Int) = (b.length : Int):=by omega
  by_cases c : a = b
  ·simp -implicitDefEqProofs only [go_sem,c] at h
   simp -implicitDefEqProofs only [go_sem,za4,h,c,ya]
  ·simp -implicitDefEqProofs only [go_sem,c] at h
   simp -implicitDefEqProofs only [go_sem,za4,h,c,ya,hi]
 ·have hi : ¬ (a.length : Int) = (b.length : Int):=by omega
  have c : ¬ a = b:=fun h => hn (by rw [h])
  simp -implicitDefEqProofs only [go_sem,za4,c,ya,hi]
theorem zxG (l : List Int) (x : Int) (hl : l.length ≤ 4294967296) : ∀ (d k : Nat) (a2 a4 a5 : V),l.length - k = d → k ≤ l.length →
  exec T zcE ⟨[vIs l,vI x,a2,vI k,a4,a5],[],0,0⟩ = some (if x ∈ l.drop k then (.ret,⟨[vU,vU,vB true,vU,vU,vU],[],0,0⟩) else (.exit 0,⟨[vU,vU,vU,vU,vU,vU],[],0,0⟩)):=by
 intro d
 induction d with
 | zero =>
   intro k a2 a4 a5 h1 h2
   have hk : k = l.length:=by omega
   subst hk
   rw [xl zcE rfl,zeH]
   simp -implicitDefEqProofs only [go_sem,ye,ya,yd,List.not_mem_nil]
 | succ d ih =>
   intro k a2 a4 a5 h1 h2
   have hk : k < l.length:=by omega
   have hd : l.drop k = l[k] :: l.drop (k + 1):=yb hk
   have:=ih (k + 1) vU vU vU (by omega) (by omega)
   rw [xl zcE rfl,zeH,hd]
   simp -implicitDefEqProofs only [go_sem] at this
   by_cases c : l[k] = x
   ·simp -implicitDefEqProofs only [go_sem,ilt hk,zp hk,ri,ya,c,yz]
   ·have c' : ¬ x = l[k]:=fun h => c h.symm
    simp -implicitDefEqProofs only [go_sem,ilt hk,zp hk,ri,ya,za hk hl,c,c',this,yz]
theorem zlm (l : List Int) (x : Int) (hl : l.length ≤ 4294967296) : call T 66 [vIs l,vI x] [] = some (vB (decide (x ∈ l)),[]):=by
 rw [ze (fn:=zc7) rfl]
 have h:=fun a2 a4 a5 => zxG l x hl l.length 0 a2 a4 a5 (by omega) (by omega)
 simp only [yf,yk] at h
 by_cases c : x ∈ l
 ·simp -implicitDefEqProofs only [go_sem,c] at h
  simp -implicitDefEqProofs only [go_sem,zc7,h,c]
 ·simp -implicitDefEqProofs only [go_sem,c] at h
  simp -implicitDefEqProofs only [go_sem,zc7,h,c]
theorem zxp (l : List Int) (hl : l.length ≤ 4294967296) : ∀ (d k : Nat) (a1 a3 a4 : V),l.length - k = d → k ≤ l.length →
  exec T zbV ⟨[vIs l,a1,vI k,a3,a4],[],0,0⟩ = some (if (l.drop k).all num = true then (.exit 0,⟨[vIs l,vU,vU,vU,vU],[],0,0⟩) else (.ret,⟨[vU,vB false,vU,vU,vU],[],0,0⟩)):=by
 intro d
 induction d with
 | zero =>
   intro k a1 a3 a4 h1 h2
   have hk : k = l.length:=by omega
   subst hk
   rw [xl zbV rfl,zem]
   simp -implicitDefEqProofs only [go_sem,ye,ya,yd,yq]
 | succ d ih =>
   intro k a1 a3 a4 h1 h2
   have hk : k < l.length:=by omega
   have hd : l.drop k = l[k] :: l.drop (k + 1):=yb hk
   have:=ih (k + 1) vU vU vU (by omega) (by omega)
   have hc:=zcz l[k]
   rw [xl zbV rfl,zem,hd,ym]
   simp -implicitDefEqProofs only [go_sem] at this
   cases c : num l[k]
   ·simp -implicitDefEqProofs only [go_sem,c] at hc
    simp -implicitDefEqProofs only [go_sem,ilt hk,zp hk,ri,ya,c,hc]
   ·simp -implicitDefEqProofs only [go_sem,c] at hc
    simp -implicitDefEqProofs only [go_sem,ilt hk,zp hk,ri,ya,za hk hl,c,hc,this]
theorem zf4 (l : List Int) (hl : l.length ≤ 4294967296) : call T 121 [vIs l] [] = some (vB (zfI l),[]):=by
 rw [ze (fn:=zcG) rfl]
 have h:=fun a1 a3 a4 => zxp l hl l.length 0 a1 a3 a4 (by omega) (by omega)
 simp only [yf,yk] at h
 have e : ((l.length : Int) ≤ 64) = (l.length ≤ 64):=by apply propext; omega
 cases c : l.all num
 ·simp -implicitDefEqProofs only [go_sem,c] at h
  simp -implicitDefEqProofs only [go_sem,zcG,h,zfI,c,ys]
 ·simp -implicitDefEqProofs only [go_sem,c] at h
  simp -implicitDefEqProofs only [go_sem,zcG,h,zfI,c,ya,e,yi]
end AC
namespace AC
open Go Go.A Go.A.Lex
theorem zr4 (b l : Int) : call T 170 [vI b,vI l] [] = some (vB (zeD b l),[]):=by
 rw [ze (fn:=zY) rfl]
 have hM:=zfJ b
 cases hm : zhH b
 ·simp -implicitDefEqProofs only [go_sem,hm] at hM
  simp -implicitDefEqProofs only [go_sem,zY,zeD,hm,hM]
 simp -implicitDefEqProofs only [go_sem,hm] at hM
 by_cases c1 : l = 1
 ·simp -implicitDefEqProofs only [go_sem,zY,zeD,hm,hM,c1]
 cases hl : zls l
 ·have hl':=hl
  simp only [zls,yl,decide_eq_false_iff_not] at hl'
  obtain ⟨⟨⟨c2,c3⟩,c4⟩,c5⟩:=hl'
  simp -implicitDefEqProofs only [go_sem,zY,zeD,hm,hM,c1,c2,c3,c4,c5,hl]
 ·have hm':=zdp hm
  have e : (b > 1) = (8 ≤ b):=by apply propext; omega
  by_cases c8 : 8 ≤ b
  ·have c9 : 1 < b:=by omega
   rcases zfr hl with rfl | rfl | rfl | rfl
   all_goals
    have w2 : Go.IntKind.i64.wrap (b * 2) = b * 2:=wrap_i64 (by omega) (by omega)
    have w4 : Go.IntKind.i64.wrap (b * 4) = b * 4:=wrap_i64 (by omega) (by omega)
    have w8 : Go.IntKind.i64.wrap (b * 8) = b * 8:=wrap_i64 (by omega) (by omega)
    have w16 : Go.IntKind.i64.wrap (b * 16) = b * 16:=wrap_i64 (by omega) (by omega)
    simp -implicitDefEqProofs only [go_sem,zY,zeD,hm,hM,c1,hl,c8,eq_true c9,w2,w4,w8,w16]
  ·have c9 : ¬ 1 < b:=by omega
   rcases zfr hl with rfl | rfl | rfl | rfl
   all_goals simp -implicitDefEqProofs only [go_sem,zY,zeD,hm,hM,c1,hl,c8,c9]
set_option maxHeartbeats 8000000
def zgr (k : Int) : Bool:=decide (0 ≤ k) && decide (k ≤ 22)
theorem zhj {k : Int} (h : zgr k = true) : k = 0 ∨ k = 1 ∨ k = 2 ∨ k = 3 ∨ k = 4 ∨ k = 5 ∨ k = 6 ∨ k = 7 ∨ k = 8 ∨ k = 9 ∨ k = 10 ∨ k = 11 ∨ k = 12 ∨ k = 13 ∨ k = 14 ∨ k = 15 ∨ k = 16 ∨ k = 17 ∨ k = 18 ∨ k = 19 ∨ k = 20 ∨ k = 21 ∨ k = 22:=by
 simp only [zgr,yc,decide_eq_true_eq] at h
 omega
def zAT (o : POp) : Int:=if zgr o.kind = true then ((zK o).1.length : Int) else -1
section
variable (o : POp) (hs : zeD o.bits o.lanes = true) (ho : zDW o)
include hs
theorem ztm : call T 171 [vOp o] [] = some (vI (zAT o),[]):=by
 rw [ze (fn:=za6) rfl]
 obtain ⟨kind,bits,lanes,dst,args,imm⟩:=o
 obtain ⟨hm,hl⟩:=zhu hs
 dsimp only at *
 cases hv : zgr kind
 ·simp only [zgr,yo,decide_eq_false_iff_not] at hv
  have hv' : zAT ⟨kind,bits,lanes,dst,args,imm⟩ = -1:=by
   unfold zAT
   rw [if_neg]
   simp only [zgr,yc,decide_eq_true_eq]
   omega
  have n0 : ¬ kind = 0:=by omega
  have n1 : ¬ kind = 1:=by omega
  have n2 : ¬ kind = 2:=by omega
  have n3 : ¬ kind = 3:=by omega
  have n4 : ¬ kind = 4:=by omega
  have n5 : ¬ kind = 5:=by omega
  have n6 : ¬ kind = 6:=by omega
  have n7 : ¬ kind = 7:=by omega
  have n8 : ¬ kind = 8:=by omega
  have n9 : ¬ kind = 9:=by omega
  have n10 : ¬ kind = 10:=by omega
  have n11 : ¬ kind = 11:=by omega
  have n12 : ¬ kind = 12:=by omega
  have n13 : ¬ kind = 13:=by omega
  have n14 : ¬ kind = 14:=by omega
  have n15 : ¬ kind = 15:=by omega
  have n16 : ¬ kind = 16:=by omega
  have n17 : ¬ kind = 17:=by omega
  have n18 : ¬ kind = 18:=by omega
  have n19 : ¬ kind = 19:=by omega
  have n20 : ¬ kind = 20:=by omega
  have n21 : ¬ kind = 21:=by omega
  have n22 : ¬ kind = 22:=by omega
  rw [hv']
  simp -implicitDefEqProofs only [go_sem,za6,n0,n1,n2,n3,n4,n5,n6,n7,n8,n9,n10,n11,n12,n13,n14,n15,n16,n17,n18,n19,n20,n21,n22]
 ·have hn : ((lanes.toNat : Nat) : Int) = lanes:=by omega
  rcases zhj hv with rfl | rfl | rfl | rfl | rfl | rfl | rfl | rfl | rfl | rfl | rfl | rfl | rfl | rfl | rfl | rfl | rfl | rfl | rfl | rfl | rfl | rfl | rfl
  all_goals first
   | (simp -implicitDefEqProofs only [go_sem,za6,zAT,zgr,zK,arith,asks,yj,hn]; done)
   | (simp -implicitDefEqProofs only [go_sem,za6,zAT,zgr,zK,arith,asks,yj,hn]; rfl)
include ho
theorem zti (hv : zgr o.kind = true) : call T 172 [vOp o] [] = some (vB (zK o).2,[]):=by
 rw [ze (fn:=zaA) rfl]
 obtain ⟨kind,bits,lanes,dst,args,imm⟩:=o
 obtain ⟨hm,hl⟩:=zhu hs
 obtain ⟨h0,h1⟩:=ho
 dsimp only at *
 have hm':=zdp hm
 have hC:=zuR imm bits h0 h1
 have hbu : Go.IntKind.u64.wrap bits = bits:=wrap_u64 (by omega) (by omega)
 have hlu : Go.IntKind.u64.wrap lanes = lanes:=wrap_u64 (by omega) (by omega)
 have e8 : (bits < 8) = (¬ 8 ≤ bits):=by apply propext; omega
 have el : (lanes < 2) = (lanes = 1):=by apply propext; omega
 simp -implicitDefEqProofs only [go_sem] at hC
 by_cases c14 : kind = 14 ∨ kind = 15
 ·by_cases d1 : lanes = 1
  ·by_cases d2 : imm ≤ 64
   ·have hii : Go.IntKind.i64.wrap imm = imm:=wrap_i64 (by omega) (by omega)
    have hM:=zfJ imm
    simp -implicitDefEqProofs only [go_sem] at hM
    by_cases d3 : imm < bits <;> by_cases d4 : bits < imm <;> rcases c14 with rfl | rfl <;> simp -implicitDefEqProofs only [go_sem,zaA,zK,arith,asks,d1,d2,d3,d4,hbu,hii,hM]
   ·have d3 : ¬ imm < bits:=by omega
    have d4 : bits < imm:=by omega
    rcases c14 with rfl | rfl <;> simp -implicitDefEqProofs only [go_sem,zaA,zK,arith,asks,d1,d2,d3,eq_true d4,hbu]
  ·rcases c14 with rfl | rfl <;> simp -implicitDefEqProofs only [go_sem,zaA,zK,arith,asks,d1]
 ·rcases zhj hv with rfl | rfl | rfl | rfl | rfl | rfl | rfl | rfl | rfl | rfl | rfl | rfl | rfl | rfl | rfl | rfl | rfl | rfl | rfl | rfl | rfl | rfl | rfl
  all_goals first
   | exact absurd (.inl rfl) c14
   | exact absurd (.inr rfl) c14
   | (simp -implicitDefEqProofs only [go_sem,zaA,zK,arith,asks,hC,hlu,hbu] <;> by_cases d1 : lanes = 1 <;> have d1' : (lanes < 2) = (lanes = 1):=el <;> simp only [d1,eq_self] at d1' <;> by_cases d8 : 8 ≤ bits <;> have d8' : (bits < 8) = ¬ 8 ≤ bits:=e8 <;> simp only [d8,not_true_eq_false,not_false_eq_true] at d8' <;> by_cases di : imm = 0 <;> simp -implicitDefEqProofs only [go_sem,d1,d1',d8,d8',di,hC,hlu,hbu])
theorem zz8 (hl : o.args.length ≤ 4294967296) : ∀ (d k : Nat) (a0 a2 a4 a5 a6 a7 : V),o.args.length - k = d → k ≤ o.args.length →
  exec T zcI ⟨[a0,.one (.ptr 0 0 0 0),a2,vI k,a4,a5,a6,a7],[.cells 0 6 [cOp o]],0,0⟩ = some (if (o.args.drop k).all value = true then (.exit 0,⟨[vU,.one (.ptr 0 0 0 0),vU,vU,vU,vU,vU,vU],[.cells 0 6 [cOp o]],0,0⟩) else (.ret,⟨[vU,vU,vB false,vU,vU,vU,vU,vU],[.cells 0 6 [cOp o]],0,0⟩)):=by
 intro d
 induction d with
 | zero =>
   intro k a0 a2 a4 a5 a6 a7 h1 h2
   have hk : k = o.args.length:=by omega
   subst hk
   rw [xl zcI rfl,zeK]
   simp -implicitDefEqProofs only [go_sem,ye,ya,yd,yq]
 | succ d ih =>
   intro k a0 a2 a4 a5 a6 a7 h1 h2
   have hk : k < o.args.length:=by omega
   have hd : o.args.drop k = o.args[k] :: o.args.drop (k + 1):=yb hk
   have:=ih (k + 1) vU vU vU vU vU vU (by omega) (by omega)
   have hc:=ziX o.args[k]
   rw [xl zcI rfl,zeK,hd,ym]
   simp -implicitDefEqProofs only [go_sem] at this
   cases c : value o.args[k]
   ·simp -implicitDefEqProofs only [go_sem,c] at hc
    simp -implicitDefEqProofs only [go_sem,ilt hk,zp hk,ri,ya,c,hc]
   ·simp -implicitDefEqProofs only [go_sem,c] at hc
    simp -implicitDefEqProofs only [go_sem,ilt hk,zp hk,ri,ya,za hk hl,c,hc,this]
end
theorem zyo (l : List Int) : (!l.any fun v => !value v) = l.all value:=by
 induction l with
 | nil => rfl
 | cons x l ih => rw [List.any_cons,ym,Bool.not_or,Bool.not_not,ih]
theorem zou {o : POp} (h : zgr o.kind = false) : (zK o).2 = false:=by
 simp only [zgr,yo,decide_eq_false_iff_not] at h
 have a1 : arith o.kind = false:=by
  simp only [arith,yl,decide_eq_false_iff_not]
  omega
 have a2 : asks o.kind = false:=by
  simp only [asks,yl,decide_eq_false_iff_not]
  omega
 unfold zK
 simp only [a1,a2]
 rw [if_neg (by omega),if_neg (by simp),if_neg (by simp),if_neg (by omega),if_neg (by omega),if_neg (by omega),if_neg (by omega),if_neg (by omega),if_neg (by omega),if_neg (by omega),if_neg (by omega),if_neg (by omega)]
theorem zlv (o : POp) (ho : zuV o) : call T 126 [vOp o] [] = some (vB (zgq o),[]):=by
 rw [ze (fn:=zG) rfl]
 have hS:=zr4 o.bits o.lanes
 cases hs : zeD o.bits o.lanes
 ·simp -implicitDefEqProofs only [go_sem,hs] at hS
  simp -implicitDefEqProofs only [go_sem,zG,zgq,hs,hS]
 have hA:=ztm o hs
 have hL:=fun a0 a2 a4 a5 a6 a7 => zz8 o hs ho.1 ho.2 o.args.length 0 a0 a2 a4 a5 a6 a7 (by omega) (by omega)
 have hV:=ziX o.dst
 have hany:=zyo o.args
 simp only [yf,yk] at hL
 simp -implicitDefEqProofs only [go_sem,hs] at hS hA hV
 cases hv : zgr o.kind
 ·have hb:=zou hv
  have e : zAT o = -1:=by unfold zAT; rw [hv]; rfl
  have hne : ¬ (-1 : Int) = (o.args.length : Int):=by omega
  simp -implicitDefEqProofs only [e] at hA
  simp -implicitDefEqProofs only [go_sem,zG,zgq,hs,hS,hA,hb,hne,ya]
 have hF:=zti o hs ho.1 hv
 have e : zAT o = ((zK o).1.length : Int):=by unfold zAT; rw [hv]; rfl
 simp -implicitDefEqProofs only [go_sem,e] at hA hF
 by_cases h4 : (zK o).1.length = o.args.length
 ·have h4' : ((zK o).1.length : Int) = (o.args.length : Int):=by omega
  cases h1 : (zK o).2
  ·simp -implicitDefEqProofs only [h1] at hF
   simp -implicitDefEqProofs only [go_sem,zG,zgq,hs,hS,hA,hF,h1,h4,ya]
  ·simp -implicitDefEqProofs only [h1] at hF
   cases h5 : o.args.all value
   ·simp -implicitDefEqProofs only [go_sem,h5] at hL
    simp -implicitDefEqProofs only [go_sem,zG,zgq,hs,hS,hA,hF,h1,h4,hL,hany,h5,ya,ys]
   ·simp -implicitDefEqProofs only [go_sem,h5] at hL
    by_cases k17 : o.kind = 17
    ·simp -implicitDefEqProofs only [go_sem,zG,zgq,hs,hS,hA,hF,h1,h4,hL,hany,h5,ya,zfw,eq_true k17,yi]
    ·by_cases k19 : o.kind = 19
     ·simp -implicitDefEqProofs only [go_sem,zG,zgq,hs,hS,hA,hF,h1,h4,hL,hany,h5,ya,zfw,k17,eq_true k19,yi]
     ·simp -implicitDefEqProofs only [go_sem,zG,zgq,hs,hS,hA,hF,hV,h1,h4,hL,hany,h5,ya,zfw,k17,k19,yi]
 ·have h4' : ¬ ((zK o).1.length : Int) = (o.args.length : Int):=by omega
  simp -implicitDefEqProofs only [go_sem,zG,zgq,hs,hS,hA,h4,h4',ya,ys]
end AC
namespace AC
open Go Go.A Go.A.Lex
mutual
theorem zu2 {n m : Nat} (h : n ≤ m) : ∀ c : C,c.lt n = true → c.lt m = true
 | .f _,_ => rfl
 | .ap t _ _,e => by simp only [C.lt,decide_eq_true_eq] at e ⊢; omega
 | .ptr id _ _ _,e => by simp only [C.lt,decide_eq_true_eq] at e ⊢; omega
 | .fp _ _,_ => rfl
 | .own id _ _ _,e => by simp only [C.lt,decide_eq_true_eq] at e ⊢; omega
 | .map id,e => by simp only [C.lt,decide_eq_true_eq] at e ⊢; omega
 | .fn _ a b,e => by
   simp only [C.lt,yc] at e ⊢
   exact ⟨zeW h a e.1,zeW h b e.2⟩
 | .un,_ => rfl
theorem zeW {n m : Nat} (h : n ≤ m) : ∀ cs : List C,C.lts n cs = true → C.lts m cs = true
 | [],_ => by simp only [C.lts]
 | c :: cs,e => by
   simp only [C.lts,yc] at e ⊢
   exact ⟨zu2 h c e.1,zeW h cs e.2⟩
end
mutual
theorem zvY {n m : Nat} (h : n ≤ m) : ∀ v : V,v.lt n = true → v.lt m = true
 | .one c,e => by simp only [V.lt] at e ⊢; exact zu2 h c e
 | .agg cs,e => by simp only [V.lt] at e ⊢; exact zeW h cs e
 | .tup vs,e => by simp only [V.lt] at e ⊢; exact ztg h vs e
theorem ztg {n m : Nat} (h : n ≤ m) : ∀ vs : List V,V.lts n vs = true → V.lts m vs = true
 | [],_ => by simp only [V.lts]
 | v :: vs,e => by
   simp only [V.lts,yc] at e ⊢
   exact ⟨zvY h v e.1,ztg h vs e.2⟩
end
theorem zqI {n m : Nat} (h : n ≤ m) : ∀ es : List (List C),C.ltss n es = true → C.ltss m es = true
 | [],_ => by simp only [C.ltss]
 | c :: cs,e => by
   simp only [C.ltss,yc] at e ⊢
   exact ⟨zeW h c e.1,zqI h cs e.2⟩
theorem ztP {n m : Nat} (h : n ≤ m) : ∀ es : List (Int × V),C.ltm n es = true → C.ltm m es = true
 | [],_ => by simp only [C.ltm]
 | c :: cs,e => by
   simp only [C.ltm,yc] at e ⊢
   exact ⟨zvY h c.2 e.1,ztP h cs e.2⟩
theorem zAZ {n m : Nat} (h : n ≤ m) : ∀ o : Ob,o.lt n = true → o.lt m = true
 | .cells _ _ es,e => by simp only [Ob.lt] at e ⊢; exact zqI h es e
 | .tok _ _,_ => rfl
 | .mp es,e => by simp only [Ob.lt] at e ⊢; exact ztP h es e
theorem zoO {n m : Nat} (h : n ≤ m) : ∀ os : List Ob,Obs.lt n os = true → Obs.lt m os = true
 | [],_ => by simp only [Obs.lt]
 | o :: os,e => by
   simp only [Obs.lt,yc] at e ⊢
   exact ⟨zAZ h o e.1,zoO h os e.2⟩
theorem zgg {σ : zd} {k : Nat} {o : Ob} (h : σ[k]? = some o) (r : zd) : (σ ++ r)[k]? = some o:=by
 have : k < σ.length:=(yh.1 h).1
 rw [List.getElem?_append_left this,h]
theorem zh3 {σ : zd} {k : Nat} {o : Ob} (h : σ[k]? = some o) (j : Nat) : (k < σ.length + j) = True:=by
 have : k < σ.length:=(yh.1 h).1
 simp; omega
theorem zhL {σ : zd} {k : Nat} {o : Ob} (h : σ[k]? = some o) : (k < σ.length) = True:=by
 have : k < σ.length:=(yh.1 h).1
 simp; omega
theorem zFK (n : Nat) : (n < n + 1) = True:=by simp
theorem zFi (n : Nat) : (n < n + 2) = True:=by simp
theorem zFE (n : Nat) : (n < n + 3) = True:=by simp
theorem zFk (n : Nat) : (n < n + 4) = True:=by simp
theorem zFc (n : Nat) : (n + 1 < n + 2) = True:=by simp
theorem zFF (n : Nat) : (n + 1 < n + 3) = True:=by simp
theorem zFI (n : Nat) : (n + 2 < n + 3) = True:=by simp
theorem zFt (n : Nat) : (n + 3 < n + 4) = True:=by simp
theorem zFG (n : Nat) : (n + 2 < n + 4) = True:=by simp
theorem zFx (n : Nat) : (n + 1 < n + 4) = True:=by simp
theorem zFj (n k : Nat) : (n + k ≤ n + k) = True:=by simp
theorem zFh (n : Nat) : (n + 2 ≤ n + 1) = False:=by simp
theorem zFo (n : Nat) : (n + 3 ≤ n + 1) = False:=by simp
theorem zFa (n : Nat) : (n + 3 ≤ n + 2) = False:=by simp
theorem zFu (n : Nat) : (n + 4 ≤ n + 1) = False:=by simp
theorem zFJ (n : Nat) : (n + 4 ≤ n + 2) = False:=by simp
theorem zE9 (n : Nat) : (n + 4 ≤ n + 3) = False:=by simp
attribute [go_sem] zFK zFi zFE zFk zFc zFF zFI zFt zFG zFx zFj zFh zFo zFa zFu zFJ zE9
def Ok (σ : zd) : Prop:=Obs.lt σ.length σ = true
theorem Ok.up {σ : zd} (h : Ok σ) (k : Nat) : Obs.lt (σ.length + k) σ = true:=zoO (Nat.le_add_right _ _) _ h
theorem Ok.at {σ : zd} (h : Ok σ) : Obs.lt σ.length σ = true:=h
theorem Ok.app {σ r : zd} (h : Ok σ) (h2 : Obs.lt (σ.length + r.length) r = true) : Ok (σ ++ r):=by
 unfold Ok
 rw [List.length_append,znc,Ok.up h,h2]
 rfl
end AC
namespace AC
open Go Go.A Go.A.Lex
theorem zuM {e : List C} {k : Nat} (c : C) (h : k < e.length) : e.take k ++ c :: e.drop (k + 1) = e.set k c:=by
 rw [List.set_eq_take_append_cons_drop,if_pos h]
theorem zxT {a b : Nat} (h : a < b) : (a + 1 ≤ b) = True:=by simp; omega
end AC
namespace AC
open Go Go.A Go.A.Lex
set_option maxHeartbeats 4000000
theorem zrC (o : POp) (ho : zuV o) : call T 127 [vOp o] [] = some (.tup [vI (zab o).1,vI (zab o).2],[]):=by
 rw [ze (fn:=zD) rfl]
 have hM:=zlv o ho
 cases hm : zgq o
 ·simp -implicitDefEqProofs only [go_sem,hm] at hM
  simp -implicitDefEqProofs only [go_sem,zD,zab,hm,hM]
 simp -implicitDefEqProofs only [go_sem,hm] at hM
 by_cases c1 : o.kind = 17
 ·simp -implicitDefEqProofs only [go_sem,zD,zab,zfw,hm,hM,eq_true c1]
 by_cases c2 : o.kind = 19
 ·simp -implicitDefEqProofs only [go_sem,zD,zab,zfw,hm,hM,c1,eq_true c2]
 by_cases c3 : 10 ≤ o.kind
 ·have c3' : o.kind ≥ 10:=c3
  by_cases c4 : o.kind ≤ 12
  ·simp -implicitDefEqProofs only [go_sem,zD,zab,zfw,hm,hM,c1,c2,eq_true c3,eq_true c3',eq_true c4]
  ·by_cases c5 : o.kind = 22
   ·simp -implicitDefEqProofs only [go_sem,zD,zab,zfw,hm,hM,c1,c2,eq_true c3,eq_true c3',c4,eq_true c5]
   ·simp -implicitDefEqProofs only [go_sem,zD,zab,zfw,hm,hM,c1,c2,eq_true c3,eq_true c3',c4,c5]
 ·have c3' : ¬ o.kind ≥ 10:=c3
  have c5 : ¬ o.kind = 22:=by omega
  simp -implicitDefEqProofs only [go_sem,zD,zab,zfw,hm,hM,c1,c2,c3,c3',c5,false_and]
def zll (o : POp) (k : Nat) : Int × Int :=
 if o.kind = 13 ∨ o.kind = 20 then (if k = 0 then (1,1) else (o.bits,o.lanes))
 else if o.kind = 14 ∨ o.kind = 15 then (o.imm,1)
 else if o.kind = 16 ∨ o.kind = 17 then (if k = 0 then (64,1) else (o.bits,o.lanes))
 else if o.kind = 18 ∨ o.kind = 19 then (if k = 1 then (64,1) else if k = 0 then (1,1) else (o.bits,o.lanes))
 else if o.kind = 21 then (o.bits,1) else (o.bits,o.lanes)
theorem zm1 {o : POp} (h : zgq o = true) : zeD o.bits o.lanes = true ∧ (zK o).2 = true ∧ (zK o).1.length = o.args.length ∧ zgr o.kind = true:=by
 unfold zgq at h
 simp only [yc,decide_eq_true_eq] at h
 refine ⟨h.1,h.2.1,h.2.2.2.1,?_⟩
 cases hv : zgr o.kind
 ·rw [zou hv] at h
  exact absurd h.2.1 (by simp)
 ·rfl
theorem zsX {o : POp} (h : zgq o = true) (hk : o.kind = 14 ∨ o.kind = 15) : 0 ≤ o.imm → o.imm ≤ 64:=by
 obtain ⟨h1,h2,_,_⟩:=zm1 h
 obtain ⟨hm,hl⟩:=zhu h1
 have hb:=zdp hm
 unfold zK at h2
 rcases hk with hk | hk
 ·simp [hk,arith,asks] at h2
  omega
 ·simp [hk,arith,asks] at h2
  omega
theorem zwB {o : POp} (h : zgq o = true) (h0 : 0 ≤ o.imm) : (yn o.args.length).map (zll o) = (zK o).1:=by
 obtain ⟨h1,h2,h3,h4⟩:=zm1 h
 have hi:=fun hk => zsX h hk h0
 rw [← h3]
 obtain ⟨kind,bits,lanes,dst,args,imm⟩:=o
 dsimp only at *
 rcases zhj h4 with rfl | rfl | rfl | rfl | rfl | rfl | rfl | rfl | rfl | rfl | rfl | rfl | rfl | rfl | rfl | rfl | rfl | rfl | rfl | rfl | rfl | rfl | rfl
 all_goals first
  | rfl
  | (have h5:=hi (.inl rfl)
     have h6 : min imm 128 = imm:=by omega
     simp [zK,arith,asks,zll,h6,yp]
     done)
  | (have h5:=hi (.inr rfl)
     have h6 : min imm 128 = imm:=by omega
     simp [zK,arith,asks,zll,h6,yp]
     done)
  | (have h7 : zll ⟨21,bits,lanes,dst,args,imm⟩ = fun _ => (bits,1):=by funext k; simp [zll]
     have h8 : (zK ⟨21,bits,lanes,dst,args,imm⟩).1 = List.replicate lanes.toNat (bits,1):=by simp [zK,arith,asks]
     rw [h7,h8,List.map_const',List.length_range,yj]
     done)
theorem zu1 (o : POp) (ho : zuV o) (hm : zgq o = true) : ∀ (d k : Nat) (a0 a2 a5 a6 a7 a8 a9 a10 a11 a12 a13 a14 a15 a16 a17 : V),o.args.length - k = d → k ≤ o.args.length →
  exec T zbK ⟨[a0,.one (.ptr 0 0 0 0),a2,.one (.ap 1 0 (((yn k).map (zll o)).map rs)),vI k,a5,a6,a7,a8,a9,a10,a11,a12,a13,a14,a15,a16,a17],[.cells 0 6 [cOp o],.tok 2 [k]],0,0⟩ =
   some (.exit 0,⟨[vU,vU,vU,.one (.ap 1 0 (((yn o.args.length).map (zll o)).map rs)),vU,vU,vU,vU,vU,vU,vU,vU,vU,vU,vU,vU,vU,vU],[.cells 0 6 [cOp o],.tok 2 [o.args.length]],0,0⟩):=by
 intro d
 induction d with
 | zero =>
   intro k a0 a2 a5 a6 a7 a8 a9 a10 a11 a12 a13 a14 a15 a16 a17 h1 h2
   have hk : k = o.args.length:=by omega
   subst hk
   rw [xl zbK rfl,zdC]
   simp -implicitDefEqProofs only [go_sem,ye,ya]
 | succ d ih =>
   intro k a0 a2 a5 a6 a7 a8 a9 a10 a11 a12 a13 a14 a15 a16 a17 h1 h2
   have hk : k < o.args.length:=by omega
   have:=ih (k + 1) vU vU vU vU vU vU vU vU vU vU vU vU vU vU vU (by omega) (by omega)
   have hlim : k + 1 ≤ LIM:=by have:=ho.2; unfold LIM; omega
   have hlen : (((yn k).map (zll o)).map rs).length = k:=by simp
   have e1 : ((yn k).map (zll o)).map rs ++ [rs (zll o k)] = ((yn (k + 1)).map (zll o)).map rs:=by
    rw [yp,yv,yv]
    rfl
   have hw : o.kind = 14 ∨ o.kind = 15 → Go.IntKind.i64.wrap o.imm = o.imm:=fun h => by
    have:=zsX hm h ho.1.1
    have:=ho.1.1
    rw [wrap_i64] <;> omega
   have hwk:=za hk ho.2
   have hik:=ilt hk
   obtain ⟨h3,h4,h5,h6⟩:=zm1 hm
   obtain ⟨acc,hacc⟩ : ∃ acc,acc = ((yn k).map (zll o)).map rs:=⟨_,rfl⟩
   rw [← hacc] at hlen e1 ⊢
   obtain ⟨kind,bits,lanes,dst,args,imm⟩:=o
   dsimp only at *
   have hk0 : ((k : Int) = 0) = (k = 0):=by apply propext; omega
   have hk1 : ((k : Int) = 1) = (k = 1):=by apply propext; omega
   rw [xl zbK rfl,zdC]
   simp -implicitDefEqProofs only [go_sem] at this
   rcases zhj h6 with rfl | rfl | rfl | rfl | rfl | rfl | rfl | rfl | rfl | rfl | rfl | rfl | rfl | rfl | rfl | rfl | rfl | rfl | rfl | rfl | rfl | rfl | rfl
   all_goals
    by_cases k0 : k = 0
    ·have k1 : ¬ k = 1:=by omega
     simp -implicitDefEqProofs only [zll,rs,eq_true k0,k1,if_true,if_false,yt,or_false,or_true,false_or,true_or,or_self,Nat.reduceEqDiff,Nat.zero_ne_one] at e1 hw
     simp -implicitDefEqProofs only [go_sem,ya,hik,hk0,hk1,eq_true k0,k1,hlen,hlim,hwk,hw,e1,this]
    ·by_cases k1 : k = 1
     ·simp -implicitDefEqProofs only [zll,rs,k0,eq_true k1,if_true,if_false,yt,or_false,or_true,false_or,true_or,or_self] at e1 hw
      simp -implicitDefEqProofs only [go_sem,ya,hik,hk0,hk1,k0,eq_true k1,hlen,hlim,hwk,hw,e1,this]
     ·simp -implicitDefEqProofs only [zll,rs,k0,k1,if_true,if_false,yt,or_false,or_true,false_or,true_or,or_self] at e1 hw
      simp -implicitDefEqProofs only [go_sem,ya,hik,hk0,hk1,k0,k1,hlen,hlim,hwk,hw,e1,this]
end AC

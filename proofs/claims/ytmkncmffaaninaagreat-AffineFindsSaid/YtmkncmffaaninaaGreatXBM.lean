/- A part of the proof of AffineFinds. Conditions: none. -/
import Derived.Test.YtmkncmffaaninaaGreatXBK
import Derived.Test.YtmkncmffaaninaaGreatXAI
import Derived.Test.YtmkncmffaaninaaGreatXAR
import Derived.Test.YtmkncmffaaninaaGreatXAW
import Derived.Test.YtmkncmffaaninaaGreatXBL
import Derived.Test.YtmkncmffaaninaaGreatXAO
import Derived.Sort.Grow
import Derived.Lib.SlicesCompact
import Derived.Shelf.SlIterI.Sorted
import Derived.Shelf.SortM.Plain
import Derived.Shelf.SortM.SortNone
import Derived.Ground.GgzProg
import Derived.Ground.SlgmProg
import Derived.Test.YtmkncmffaaninaaGreatProg
import Derived.Shelf.SlicesG.CompactI
set_option linter.all false
open Option renaming map_eq_some_iff → ya,bind_eq_some_iff → yf
open List renaming getElem?_eq_some_iff → yb,drop_eq_getElem_cons → yc,replicate → yd,getElem_mem → yg,length_cons → yh,mem_cons_of_mem → yi,mem_cons_self → yl,getElem?_eq_getElem → yn,length_replicate → yp,drop_zero → yr,mem_cons → yt,map_cons → yu,length_map → yx
open Int renaming toNat_natCast → ye,eq_ofNat_of_zero_le → ym,lt_irrefl → yo,natCast_zero → yv,sub_zero → yy
open Array renaming getElem?_eq_some_iff → yj,getElem?_append_left → yk,getElem?_modify → yq
open Nat renaming le_refl → yw,zero_add → yz
namespace AC
open Go Go.A Go.A.Lex
theorem zDF {g : Nat} {fn : Fun} (h : T g = some (.fn fn)) {d : List V} {σ σ' : zd} {v : V} (c : call T g d σ = some (v,σ')) : σ'.length ≤ σ.length + fn.keep:=by
 rw [ze h] at c;split at c
 ·rw [yf] at c
  obtain ⟨⟨e,s⟩,i,a⟩:=c;obtain ⟨n,k⟩:=zcU.1 i;have j : s.lim = σ.length + fn.keep:=(zdo T n _ _ _ _ k).2
  have key : ∀ vs,zk3 s.lim s.st vs = some (v,σ') → σ'.length ≤ s.lim:=fun vs h => by
   unfold zk3 at h;rw [ya] at h;obtain ⟨τ,b,f⟩:=h;injection f with _ f;subst f;unfold zl8 at b;split at b
   ·injection b with b
    subst b
    assumption
   ·split at b
    ·injection b with b
     subst b;rw [List.length_take];omega
    ·cases b
  rw [← j];unfold leave at a
  cases e with
  | normal =>
    rw [yf] at a;obtain ⟨vs,_,a⟩:=a;exact key vs a
  | ret =>
    rw [yf] at a;obtain ⟨vs,_,a⟩:=a;exact key vs a
  | exit => cases a
  | goto => cases a
 ·cases c
theorem zyB (f : PFunc) (c : okF f) (tree : List Int) (a : zm6 f tree) (b : zh4 f 2 tree ≠ 0) : ∃ σ',call T 84 [zfg f] [] = some (.one (.f (.lit (.map none))),σ'):=by
 rw [ze (fn:=zfp) rfl];obtain ⟨σ',h,_⟩:=zvi f c 2 tree a;have e : σ'.length ≤ 0 + zav.keep:=zDF (fn:=zav) rfl h;have g : zav.keep = 5:=rfl;have d : (σ'.length + 1 ≤ 7) = True:=by simp; omega
 simp -implicitDefEqProofs only [go_sem] at h;simp -implicitDefEqProofs only [go_sem,zfp,h,b,d];exact ⟨_,rfl⟩
theorem zEf (f : PFunc) (h : okF f) (tree : List Int) (e : zm6 f tree) (g : zh4 f 2 tree ≠ 0) (v : Int) : call T 33 [zfg f,vI v] [] = some (.tup [vFm zj0,vI 10],[]):=by
 rw [ze (fn:=zdB) rfl];obtain ⟨σ',c⟩:=zyB f h tree e g;have a : (σ'.map (Ob.shift 2)).length = σ'.length:=yx _;have d:=fun (o : Ob) r => zgX a o r;have b:=fun (x o : Ob) r => zkM a x o r;simp -implicitDefEqProofs only [go_sem] at c;simp -implicitDefEqProofs only [go_sem,zdB,c,d,b,vFm,fF,zj]
end AC
namespace AC
open Go Go.A
def LB : Nat:=140737488351232
structure anyB (b : PBlock) : Prop where
 phis : b.phis.length ≤ LB
 ops : b.ops.length ≤ LB
 phi : ∀ p ∈ b.phis,p.src.length ≤ LB ∧ p.args.length ≤ LB
 op : ∀ o ∈ b.ops,(0 ≤ o.imm ∧ o.imm < 18446744073709551616) ∧ o.args.length ≤ LB
 to : b.to.length ≤ LB
structure anyF (f : PFunc) : Prop where
 params : f.params.length ≤ LB
 blocks : f.blocks.length ≤ LB
 block : ∀ b ∈ f.blocks,anyB b
theorem zvU {n : Nat} (h : n ≤ 9223372036854775807) : Go.IntKind.i64.wrap (n : Int) = (n : Int):=wrap_i64 (by omega) (by omega)
theorem zlD {k n : Nat} (h : k < n) (a : n ≤ LB) : Go.IntKind.i64.wrap ((k : Int) + 1) = ((k + 1 : Nat) : Int):=by
 unfold LB at a;rw [wrap_i64] <;> omega
end AC
namespace AC
open Go Go.A Go.A.Lex
def zx8 : Nat → List PPhi → Nat
 | n,[] => n
 | n,p :: r => if n ≤ 20000 then zx8 (n + 1 + p.src.length + p.args.length) r else n
def zzW : Nat → List POp → Nat
 | n,[] => n
 | n,o :: r => if n ≤ 20000 then zzW (n + 1 + o.args.length) r else n
def zzY : Nat → List PBlock → Nat
 | n,[] => n
 | n,b :: r => if n ≤ 20000 then zzY (zzW (zx8 (n + 1 + b.to.length) b.phis) b.ops) r else n
def zsv (f : PFunc) : Bool:=decide (zzY f.params.length f.blocks ≤ 20000)
theorem zA6 (b : LB = 140737488351232) : ∀ (l : List PPhi) (n : Nat),(∀ p ∈ l,p.src.length ≤ LB ∧ p.args.length ≤ LB) → n ≤ 500000000000000 → zx8 n l ≤ 500000000000000
 | [],n,_,h => h
 | p :: l,n,hp,h => by
   have:=hp p yl;rw [zx8];split
   ·exact zA6 b l _ (fun q a => hp q (yi _ a)) (by omega)
   ·exact h
theorem zAV (b : LB = 140737488351232) : ∀ (l : List POp) (n : Nat),(∀ p ∈ l,p.args.length ≤ LB) → n ≤ 500000000000000 → zzW n l ≤ 500000000000000
 | [],n,_,h => h
 | p :: l,n,hp,h => by
   have:=hp p yl;rw [zzW];split
   ·exact zAV b l _ (fun q a => hp q (yi _ a)) (by omega)
   ·exact h
section
variable (f : PFunc) (hf : anyF f)
include hf
theorem zI7 (i : Nat) (b : i < f.blocks.length) : ∀ (d k n : Nat) (a0 a2 a6 a7 a8 a9 : V),f.blocks[i].phis.length - k = d → k ≤ f.blocks[i].phis.length → n ≤ 1000000000000000 →
  exec T zb1 ⟨[a0,.one (.ptr 0 0 0 0),a2,vI (n : Int),vI i,vI k,a6,a7,a8,a9],[.cells 0 3 [zcz f]],0,0⟩ =
   some (.exit 2,⟨[vU,.one (.ptr 0 0 0 0),vU,vI (zx8 n (f.blocks[i].phis.drop k) : Nat),vI i,vU,vU,vU,vU,vU],[.cells 0 3 [zcz f]],0,0⟩):=by
 have j:=hf.block _ (yg b);intro d
 induction d with
 | zero =>
   intro k n a0 a2 a6 a7 a8 a9 q r m;have a : k = f.blocks[i].phis.length:=(by omega);subst a;have e : f.blocks[i].phis.drop f.blocks[i].phis.length = []:=(by simp);rw [xl zb1 rfl,zd5,e,zx8];simp -implicitDefEqProofs only [go_sem,zy b,rb,yo]
 | succ d ih =>
   intro k n a0 a2 a6 a7 a8 a9 q r m;have a : k < f.blocks[i].phis.length:=(by omega);have g : f.blocks[i].phis.drop k = f.blocks[i].phis[k] :: f.blocks[i].phis.drop (k + 1):=yc a;have s:=j.phi _ (yg a);have t : LB = 140737488351232:=rfl;rw [xl zb1 rfl,zd5,g,zx8]
   by_cases c : n ≤ 20000
   ·have h : ((n : Nat) : Int) ≤ 20000:=by omega
    have o : Go.IntKind.i64.wrap ((n : Int) + 1) = ((n + 1 : Nat) : Int):=zvU (n:=n + 1) (by omega);have l : Go.IntKind.i64.wrap (((n + 1 : Nat) : Int) + (f.blocks[i].phis[k].src.length : Int)) = ((n + 1 + f.blocks[i].phis[k].src.length : Nat) : Int):=zvU (n:=n + 1 + f.blocks[i].phis[k].src.length) (by omega);have p : Go.IntKind.i64.wrap (((n + 1 + f.blocks[i].phis[k].src.length : Nat) : Int) + (f.blocks[i].phis[k].args.length : Int)) = ((n + 1 + f.blocks[i].phis[k].src.length + f.blocks[i].phis[k].args.length : Nat) : Int):=zvU (n:=n + 1 + f.blocks[i].phis[k].src.length + f.blocks[i].phis[k].args.length) (by omega);have:=ih (k + 1) (n + 1 + f.blocks[i].phis[k].src.length + f.blocks[i].phis[k].args.length) vU vU vU vU vU vU (by omega) (by omega) (by omega);rw [if_pos c];simp -implicitDefEqProofs only [go_sem] at this;simp -implicitDefEqProofs only [go_sem,ilt a,zy b,zy a,rb,rp,h,o,l,p,zlD a j.phis,this]
   ·have h : ¬ ((n : Nat) : Int) ≤ 20000:=by omega
    rw [if_neg c];simp -implicitDefEqProofs only [go_sem,ilt a,zy b,rb,h]
theorem zI2 (i : Nat) (b : i < f.blocks.length) : ∀ (d k n : Nat) (a0 a2 a5 a7 a8 a9 : V),f.blocks[i].ops.length - k = d → k ≤ f.blocks[i].ops.length → n ≤ 1000000000000000 →
  exec T zbN ⟨[a0,.one (.ptr 0 0 0 0),a2,vI (n : Int),vI i,a5,vI k,a7,a8,a9],[.cells 0 3 [zcz f]],0,0⟩ =
   some (.exit 4,⟨[vU,.one (.ptr 0 0 0 0),vU,vI (zzW n (f.blocks[i].ops.drop k) : Nat),vI i,vU,vU,vU,vU,vU],[.cells 0 3 [zcz f]],0,0⟩):=by
 have j:=hf.block _ (yg b);intro d
 induction d with
 | zero =>
   intro k n a0 a2 a5 a7 a8 a9 p q m;have a : k = f.blocks[i].ops.length:=(by omega);subst a;have e : f.blocks[i].ops.drop f.blocks[i].ops.length = []:=(by simp);rw [xl zbN rfl,zdZ,e,zzW];simp -implicitDefEqProofs only [go_sem,zy b,rb,yo]
 | succ d ih =>
   intro k n a0 a2 a5 a7 a8 a9 p q m;have a : k < f.blocks[i].ops.length:=(by omega);have g : f.blocks[i].ops.drop k = f.blocks[i].ops[k] :: f.blocks[i].ops.drop (k + 1):=yc a;have r:=j.op _ (yg a);have s : LB = 140737488351232:=rfl;rw [xl zbN rfl,zdZ,g,zzW]
   by_cases c : n ≤ 20000
   ·have h : ((n : Nat) : Int) ≤ 20000:=by omega
    have o : Go.IntKind.i64.wrap ((n : Int) + 1) = ((n + 1 : Nat) : Int):=zvU (n:=n + 1) (by omega);have l : Go.IntKind.i64.wrap (((n + 1 : Nat) : Int) + (f.blocks[i].ops[k].args.length : Int)) = ((n + 1 + f.blocks[i].ops[k].args.length : Nat) : Int):=zvU (n:=n + 1 + f.blocks[i].ops[k].args.length) (by omega);have:=ih (k + 1) (n + 1 + f.blocks[i].ops[k].args.length) vU vU vU vU vU vU (by omega) (by omega) (by omega);rw [if_pos c];simp -implicitDefEqProofs only [go_sem] at this;simp -implicitDefEqProofs only [go_sem,ilt a,zy b,zy a,rb,ro,h,o,l,zlD a j.ops,this]
   ·have h : ¬ ((n : Nat) : Int) ≤ 20000:=by omega
    rw [if_neg c];simp -implicitDefEqProofs only [go_sem,ilt a,zy b,rb,h]
theorem zJg : ∀ (d k n : Nat) (a0 a2 a5 a6 a7 a8 a9 : V),f.blocks.length - k = d → k ≤ f.blocks.length → n ≤ 500000000000000 →
  exec T zbM ⟨[a0,.one (.ptr 0 0 0 0),a2,vI (n : Int),vI k,a5,a6,a7,a8,a9],[.cells 0 3 [zcz f]],0,0⟩ =
   some (.exit 0,⟨[vU,vU,vU,vI (zzY n (f.blocks.drop k) : Nat),vU,vU,vU,vU,vU,vU],[.cells 0 3 [zcz f]],0,0⟩):=by
 have i : LB = 140737488351232:=rfl;intro d
 induction d with
 | zero =>
   intro k n a0 a2 a5 a6 a7 a8 a9 r s m;have a : k = f.blocks.length:=(by omega);subst a;have e : f.blocks.drop f.blocks.length = []:=(by simp);rw [xl zbM rfl,zeh,e,zzY];simp -implicitDefEqProofs only [go_sem,yo]
 | succ d ih =>
   intro k n a0 a2 a5 a6 a7 a8 a9 r s m;have a : k < f.blocks.length:=(by omega);have g : f.blocks.drop k = f.blocks[k] :: f.blocks.drop (k + 1):=yc a;have b:=hf.block _ (yg a);have j:=b.to;rw [xl zbM rfl,zeh,g,zzY]
   by_cases c : n ≤ 20000
   ·have h : ((n : Nat) : Int) ≤ 20000:=by omega
    have p : Go.IntKind.i64.wrap ((n : Int) + 1) = ((n + 1 : Nat) : Int):=zvU (n:=n + 1) (by omega);have l : Go.IntKind.i64.wrap (((n + 1 : Nat) : Int) + (f.blocks[k].to.length : Int)) = ((n + 1 + f.blocks[k].to.length : Nat) : Int):=zvU (n:=n + 1 + f.blocks[k].to.length) (by omega);have b1:=zA6 i f.blocks[k].phis (n + 1 + f.blocks[k].to.length) b.phi (by omega);have b2:=zAV i f.blocks[k].ops _ (fun o q => (b.op o q).2) b1;have p1:=fun a0 a2 a6 a7 a8 a9 => zI7 f hf k a f.blocks[k].phis.length 0 (n + 1 + f.blocks[k].to.length) a0 a2 a6 a7 a8 a9 (by omega) (by omega) (by omega);have p2:=fun a0 a2 a5 a7 a8 a9 => zI2 f hf k a f.blocks[k].ops.length 0 (zx8 (n + 1 + f.blocks[k].to.length) f.blocks[k].phis) a0 a2 a5 a7 a8 a9 (by omega) (by omega) (by omega);have:=ih (k + 1) (zzW (zx8 (n + 1 + f.blocks[k].to.length) f.blocks[k].phis) f.blocks[k].ops) vU vU vU vU vU vU vU (by omega) (by omega) b2;rw [if_pos c];rw [yr] at p1 p2;simp -implicitDefEqProofs only [go_sem] at this p1 p2;simp -implicitDefEqProofs only [go_sem,ilt a,zy a,rb,h,p,l,p1,p2,zlD a hf.blocks,this]
   ·have h : ¬ ((n : Nat) : Int) ≤ 20000:=by omega
    rw [if_neg c];simp -implicitDefEqProofs only [go_sem,ilt a,h]
theorem zto : call T 61 [zfg f] [] = some (vB (zsv f),[]):=by
 have b : LB = 140737488351232:=rfl;have d:=hf.params;rw [ze (fn:=zce) rfl];have h:=fun a0 a2 a5 a6 a7 a8 a9 => zJg f hf f.blocks.length 0 f.params.length a0 a2 a5 a6 a7 a8 a9 (by omega) (by omega) (by omega);rw [yr] at h;simp -implicitDefEqProofs only [go_sem] at h;unfold zsv
 by_cases c : zzY f.params.length f.blocks ≤ 20000
 ·have a : ((zzY f.params.length f.blocks : Nat) : Int) ≤ 20000:=by omega
  simp -implicitDefEqProofs only [go_sem,zce,h,c,a]
 ·have a : ¬ ((zzY f.params.length f.blocks : Nat) : Int) ≤ 20000:=by omega
  simp -implicitDefEqProofs only [go_sem,zce,h,c,a]
theorem zHG : ∀ (d k : Nat) (n : Int),f.blocks.length - k = d → k ≤ f.blocks.length →
  ∃ m : Int,∀ (a0 a2 a5 : V),exec T zbU ⟨[a0,.one (.ptr 0 0 0 0),a2,vI n,vI k,a5],[.cells 0 3 [zcz f]],0,0⟩ =
    some (.exit 0,⟨[vU,.one (.ptr 0 0 0 0),vU,vI m,vU,vU],[.cells 0 3 [zcz f]],0,0⟩):=by
 have e : LB = 140737488351232:=rfl;intro d
 induction d with
 | zero =>
   intro k n b c;have a : k = f.blocks.length:=(by omega);subst a;refine ⟨n,fun a0 a2 a5 => ?_⟩;rw [xl zbU rfl,zeg];simp -implicitDefEqProofs only [go_sem,yo]
 | succ d ih =>
   intro k n b c;have a : k < f.blocks.length:=(by omega);obtain ⟨m,hm⟩:=ih (k + 1) (Go.IntKind.i64.wrap (Go.IntKind.i64.wrap (Go.IntKind.i64.wrap (n + 1) + (f.blocks[k].ops.length : Int)) + (f.blocks[k].phis.length : Int))) (by omega) (by omega);refine ⟨m,fun a0 a2 a5 => ?_⟩;have:=hm vU vU vU;rw [xl zbU rfl,zeg];simp -implicitDefEqProofs only [go_sem] at this;simp -implicitDefEqProofs only [go_sem,ilt a,zy a,rb,zlD a hf.blocks,this]
theorem ztJ : ∃ b : Bool,call T 16 [zfg f] [] = some (vB b,[]) ∧ (b = true → zsv f = true):=by
 obtain ⟨m,hm⟩:=zHG f hf f.blocks.length 0 0 (by omega) (by omega);have a:=zto f hf;rw [ze (fn:=zK) rfl];simp -implicitDefEqProofs only [go_sem] at hm a;cases c : zsv f
 ·refine ⟨false,?_,fun h => by cases h⟩
  rw [c] at a;simp -implicitDefEqProofs only [go_sem,zK,hm,a]
 ·rw [c] at a
  by_cases c1 : (f.blocks.length : Int) ≤ 16
  ·have d : ¬ (64 : Int) < (f.blocks.length : Int):=by omega
   by_cases c3 : m ≤ 100
   ·refine ⟨true,?_,fun _ => rfl⟩
    simp -implicitDefEqProofs only [go_sem,zK,hm,a,c1,c3]
   ·by_cases c4 : 512 < m
    ·refine ⟨true,?_,fun _ => rfl⟩
     simp -implicitDefEqProofs only [go_sem,zK,hm,a,c1,d,c3,c4]
    ·refine ⟨false,?_,fun h => by cases h⟩
     simp -implicitDefEqProofs only [go_sem,zK,hm,a,c1,d,c3,c4]
  ·by_cases c2 : (64 : Int) < (f.blocks.length : Int)
   ·refine ⟨true,?_,fun _ => rfl⟩
    simp -implicitDefEqProofs only [go_sem,zK,hm,a,c1,c2]
   ·by_cases c4 : 512 < m
    ·refine ⟨true,?_,fun _ => rfl⟩
     simp -implicitDefEqProofs only [go_sem,zK,hm,a,c1,c2,c4]
    ·refine ⟨false,?_,fun h => by cases h⟩
     simp -implicitDefEqProofs only [go_sem,zK,hm,a,c1,c2,c4]
end
theorem zCw : ∀ (l : List PPhi) (n : Nat),zx8 n l ≤ 20000 → n + l.length ≤ zx8 n l ∧ ∀ p ∈ l,p.src.length ≤ 20000 ∧ p.args.length ≤ 20000
 | [],n,_ => ⟨yw _,fun _ h => by simp at h⟩
 | p :: l,n,h => by
   rw [zx8] at h ⊢;split at h
   ·rename_i c
    obtain ⟨d,b⟩:=zCw l _ h;rw [if_pos c];refine ⟨by simp only [yh]; omega,fun q a => ?_⟩;rcases yt.1 a with rfl | a
    ·omega
    ·exact b q a
   ·omega
theorem zAs : ∀ (l : List POp) (n : Nat),zzW n l ≤ 20000 → n + l.length ≤ zzW n l ∧ ∀ p ∈ l,p.args.length ≤ 20000
 | [],n,_ => ⟨yw _,fun _ h => by simp at h⟩
 | p :: l,n,h => by
   rw [zzW] at h ⊢;split at h
   ·rename_i c
    obtain ⟨d,b⟩:=zAs l _ h;rw [if_pos c];refine ⟨by simp only [yh]; omega,fun q a => ?_⟩;rcases yt.1 a with rfl | a
    ·omega
    ·exact b q a
   ·omega
theorem zB3 : ∀ (l : List PBlock) (n : Nat),(∀ b ∈ l,anyB b) → zzY n l ≤ 20000 → n + l.length + (l.map fun b => b.phis.length + b.ops.length).sum ≤ zzY n l ∧ ∀ b ∈ l,okB b
 | [],n,_,_ => ⟨by simp [zzY],fun _ h => by simp at h⟩
 | b :: l,n,ha,h => by
   rw [zzY] at h ⊢;split at h
   ·rename_i c
    obtain ⟨m,j⟩:=zB3 l _ (fun x i => ha x (yi _ i)) h;rw [if_pos c];obtain ⟨k,e⟩:=zAs b.ops _ (show zzW (zx8 (n + 1 + b.to.length) b.phis) b.ops ≤ 20000 by omega);obtain ⟨p1,p2⟩:=zCw b.phis _ (show zx8 (n + 1 + b.to.length) b.phis ≤ 20000 by omega);refine ⟨by simp only [yh,yu,List.sum_cons]; omega,fun q a => ?_⟩;rcases yt.1 a with rfl | a
    ·have g:=ha q yl
     exact ⟨by omega,by omega,fun p f => by have:=p2 p f; exact ⟨by omega,by omega⟩,fun o d => ⟨(g.op o d).1,by have:=e o d; omega⟩,by omega⟩
    ·exact j q a
   ·omega
theorem zEe {f : PFunc} (hf : anyF f) (h : zsv f = true) : okF f:=by
 unfold zsv at h;rw [decide_eq_true_eq] at h;obtain ⟨b,a⟩:=zB3 f.blocks _ hf.block h;exact ⟨by omega,by omega,a,by omega⟩
theorem zq6 {f : PFunc} (h : RightP f 2) (v : Int) : getM v (zgt f) = (lk (zt f) v).map PDef.shape:=by
 have a : zfE (zt f) 0 (zt f) = true:=(zqM (zt f) (zt f) [] rfl).trans ((zm2 _ _).2 ⟨h.values,h.once,fun _ _ _ b => by simp at b⟩);have:=(zxa (f:=f) (zfU h.may).2.2.1).2 a v;rw [zgt,zrX v _ _ (zyl f),this];cases lk (zt f) v <;> rfl
theorem zxR {f : PFunc} (h : RightP f 2) {v : Int} {p : PDef} (e : lk (zt f) v = some p) : 0 < v ∧ v < 1024:=by
 unfold lk at e;rw [ya] at e;obtain ⟨u,hu,_⟩:=e;have a:=List.find?_some hu;have:=h.values u (List.mem_of_find?_eq_some hu);simp only [decide_eq_true_eq] at a;unfold value at this;simp only [Bool.and_eq_true,decide_eq_true_eq] at this;omega
theorem zEB (f : PFunc) (b : okF f) (v : Int) (h : ¬ RightP f 2) : call T 34 [zfg f,vI v] [] = some (.tup [vFm zj0,vI 10],[]):=by
 rw [ze (fn:=zT) rfl];have a:=zjY f b 2;have c : ¬ zaz f 2 = 0:=fun e => h (zgU.1 e);simp -implicitDefEqProofs only [go_sem] at a;simp -implicitDefEqProofs only [go_sem,zT,a,c,vFm,fF,zj]
theorem zB8 (f : PFunc) (k : okF f) (v : Int) (h : RightP f 2) (i : getM v (zgt f) ≠ some (64,1)) : call T 34 [zfg f,vI v] [] = some (.tup [vFm zj0,vI 10],[]):=by
 rw [ze (fn:=zT) rfl];have b:=zjY f k 2;rw [zgU.2 h] at b;obtain ⟨_,_,q,j,_⟩:=zfU h.may;have g:=zkn f k (by unfold zh5 at j; omega);have d:=zfT (zt f) v (by have:=ztH h.may; omega);obtain ⟨d1,d2⟩:=zia (zt f) v 0;rw [zq6 h] at i;simp -implicitDefEqProofs only [go_sem] at b g d
 by_cases c : zl v 0 (zt f) < 0
 ·simp -implicitDefEqProofs only [go_sem,zT,b,g,d,c,vFm,fF,zj]
 ·obtain ⟨n,o⟩:=ym (show 0 ≤ zl v 0 (zt f) by omega)
  have d3:=d2 (by omega);rw [o] at d c d3;simp only [yv,yy,ye] at d3
  cases e : (zt f)[n]? with
  | none =>
    exfalso;rw [e] at d3;have : (lk (zt f) v).isNone = true:=(by unfold lk; rw [← d3]; rfl);have:=d1.2 this;omega
  | some u =>
    have m : lk (zt f) v = some (toP u):=(by unfold lk; rw [← d3,e]; rfl);rw [m] at i;have p : ¬ (u.shape.1 = 64 ∧ u.shape.2 = 1):=fun h => i (by simp only [Option.map_some,toP]; rw [← h.1,← h.2]);have l : n < (zt f).length:=(yb.1 e).1;have a : ((n : Int) < ((zt f).length : Int)) = True:=(by simp; omega);have e2 : ((zt f).map rU)[n]? = some (rU u):=(by simp [e]);have n0 : (0 ≤ (n : Int)) = True:=(by simp);simp -implicitDefEqProofs only [go_sem,rU] at e2
    by_cases c1 : u.shape.1 = 64
    ·have c2 : ¬ u.shape.2 = 1:=fun c2 => p ⟨c1,c2⟩
     simp -implicitDefEqProofs only [go_sem,zT,b,g,d,c,n0,a,e2,ye,c1,c2,vFm,fF,zj]
    ·simp -implicitDefEqProofs only [go_sem,zT,b,g,d,c,n0,a,e2,ye,c1,vFm,fF,zj]
theorem zJK (f : PFunc) {O : List POp} {B : List Bool} {M : List zao} (lo : O.length = 1024) (a : B.length = 1024) (lm : M.length = 1024) :
  Fnd [.cells 0 3 [zcz f],.cells 0 2 [[.f (.sl []),.f (.lit (.int .u64 0))]],.cells 0 3 [zcz f],.cells 0 9216 [FC O B M]] 3 O B M:=by
 refine ⟨rfl,?_,lo,a,lm⟩;unfold Ok;simp -implicitDefEqProofs only [go_sem,znd]
theorem zEM (f : PFunc) (d : okF f) (v : Int) (h : RightP f 2) (j : getM v (zgt f) = some (64,1)) : call T 34 [zfg f,vI v] [] = some (.tup [vFm (zzB f v),vI 0],[]):=by
 rw [ze (fn:=zT) rfl];have l:=zjY f d 2;rw [zgU.2 h] at l;obtain ⟨_,_,B,o,_⟩:=zfU h.may;have q:=zkn f d (by unfold zh5 at o; omega);have m:=zfT (zt f) v (by have:=ztH h.may; omega);obtain ⟨d1,d2⟩:=zia (zt f) v 0;rw [zq6 h] at j;rw [ya] at j;obtain ⟨p,b,g⟩:=j;have c : ¬ zl v 0 (zt f) < 0:=fun c => by have:=d1.1 c; rw [b] at this; cases this
 obtain ⟨n,z⟩:=ym (show 0 ≤ zl v 0 (zt f) by omega);have d3:=d2 (by omega);rw [z] at m c d3;simp only [yv,yy,ye] at d3;obtain ⟨v0,v1⟩:=zxR h b;unfold lk at b;rw [← d3,ya] at b;obtain ⟨u,e,hu⟩:=b;have x : n < (zt f).length:=(yb.1 e).1;have a : ((n : Int) < ((zt f).length : Int)) = True:=by simp; omega
 have e2 : ((zt f).map rU)[n]? = some (rU u):=by simp [e]
 have n0 : (0 ≤ (n : Int)) = True:=by simp
 have c1 : u.shape.1 = 64:=by rw [← hu] at g; exact congrArg Prod.fst g
 have c2 : u.shape.2 = 1:=by rw [← hu] at g; exact congrArg Prod.snd g
 have hd:=zBF h;have r:=zET f d hd;have A : (yd 1024 false).length = 1024:=yp;have w : (yd 1024 zj0).length = 1024:=yp;have i:=zJK f (zDQ f) A w
 have t : zuy (zzB f) (yd 1024 false) (yd 1024 zj0):=fun k y e => by
  rw [List.getD_eq_getElem?_getD,List.getElem?_replicate,if_pos y] at e;cases e
 obtain ⟨D,C,_,_,_,s⟩:=zxO (zio d h) (zGF hd) (rkV f v + 1) _ 3 _ _ v i t v0 v1 (by omega);generalize yd 1024 false = Bz at *;generalize yd 1024 zj0 = Mz at *;simp -implicitDefEqProofs only [go_sem,rU] at l q m e2 r;simp -implicitDefEqProofs only [go_sem,vFm,fF] at s;simp -implicitDefEqProofs only [go_sem,zT,l,q,m,c,n0,a,e2,ye,c1,c2,r,zAl,znd,s,vFm,fF,zj]
theorem zCU (f : PFunc) (r : anyF f) (v : Int) : call T 7 [zfg f,vI v] [] = some (vB true,[]):=by
 rw [ze (fn:=zV) rfl];have d:=zGu;obtain ⟨s,c,q⟩:=ztJ f r;simp -implicitDefEqProofs only [go_sem] at d c
 cases s with
 | false => simp -implicitDefEqProofs only [go_sem,zV,d,c]
 | true =>
   have a:=zEe r (q rfl)
   by_cases g : RightP f 2
   ·have l : zh4 f 2 (zDk f) = 0:=by
     have:=zuY a 2;rw [zgU.2 g] at this;unfold zx1 at this;rw [if_neg (by omega)] at this;exact this
    by_cases j : getM v (zgt f) = some (64,1)
    ·obtain ⟨n,u,e⟩:=zz9 a g v
     have h:=zGJ f a _ (zwQ a) l v j n _ u e;have i:=zEM f a v g j;have ok : zH9 (zzB f v):=zr0 (zio a g) v
     have k : 0 < v ∧ v < 1024:=by
      have:=j;rw [zq6 g,ya] at this;obtain ⟨p,t,_⟩:=this;exact zxR g t
     have hm : zg 0 (zzB f v).1 = true:=zwm (zio a g) k.1 k.2;have b:=zoj (zzB f v).1 (zzB f v).1 (zzB f v).2 (zzB f v).2 (by have:=ok.1; omega);have o:=zts (zzB f v).1 (zzB f v).2 (by have:=ok.1; omega);rw [hm] at o;have m : (((zzB f v).1.length : Int) ≤ 16) = True:=(by have:=ok.1; simp; omega);generalize zzB f v = X at *;simp only [and_self,decide_true] at b;simp -implicitDefEqProofs only [go_sem,vFm,fF] at h i b o;simp -implicitDefEqProofs only [go_sem,zV,d,c,h,i,b,o,m,zp]
    ·have h:=zwA f a _ (zwQ a) l v j
     have i:=zB8 f a v g j;have b:=zoj [] [] 0 0 (by simp);simp only [and_self,decide_true] at b;simp -implicitDefEqProofs only [go_sem,vFm,fF,zj] at h i b;simp -implicitDefEqProofs only [go_sem,zV,d,c,h,i,b]
   ·have l : zh4 f 2 (zDk f) ≠ 0:=fun e => g (zgU.1 (by
     have:=zuY a 2;unfold zx1 at this;rw [if_neg (by omega),e] at this
     exact this.symm))
    have h:=zEf f a _ (zwQ a) l v;have i:=zEB f a v g;have b:=zoj [] [] 0 0 (by simp);simp only [and_self,decide_true] at b;simp -implicitDefEqProofs only [go_sem,vFm,fF,zj] at h i b;simp -implicitDefEqProofs only [go_sem,zV,d,c,h,i,b]
end AC
namespace Go.A
open Go.Sort
theorem zEv {c : C} {v : Value} (h : zyz c = some (.lit v)) : c = .f (.lit v):=by
 cases c <;> simp only [zyz] at h <;> first | (injection h with h; injection h) | (injection h with h; rw [h]) | cases h
theorem zum : ∀ {es : List (List C)} {l : List Int},(za6 es).bind zhC = some l → es = l.map zG
 | [],l,h => by simp [za6,zhC] at h; subst h; rfl
 | e :: es,l,h => by
   simp only [za6] at h;unfold zg6 at h;split at h
   ·rename_i x xs a j
    simp only [Option.bind_some,zhC] at h;unfold zg6 at h;split at h
    ·rename_i y ys b f
     injection h with h;subst h;have i:=zum (es:=es) (l:=ys) (by rw [j]; exact f);subst i
     have : e = zG y:=by
      unfold zxb at b;split at b
      ·rename_i z
       injection b with b;subst b
       cases e with
       | nil => simp [zfR] at a
       | cons c cs =>
         simp only [zfR] at a;unfold zg6 at a;split at a
         ·rename_i a0 bs g d
          injection a with a;injection a with h3 h4;subst h3 h4
          cases cs with
          | nil => rw [zEv g]; rfl
          | cons c2 cs =>
            simp only [zfR] at d;unfold zg6 at d;split at d
            ·cases d
            ·cases d
         ·cases a
      ·cases b
     rw [this];rfl
    ·cases h
   ·simp at h
theorem zuP {a n : Nat} {o : Ob} {l : List Int} (h : zoB a n o = some l) : o = .cells a 1 (l.map zG) ∧ l.length = n ∧ n ≤ LIM:=by
 cases o with
 | tok _ _ => simp [zoB] at h
 | mp _ => simp [zoB] at h
 | cells ver' sz es =>
   simp only [zoB] at h;split at h
   ·rename_i b
    obtain ⟨rfl,rfl,c,d⟩:=b;have:=zum h;subst this;exact ⟨rfl,by simpa using c,d⟩
   ·cases h
section
variable {g : G} {w : World} {σ : zd}
theorem zEY (R : Rel g w σ) {id d : Nat} {l : List Int} (b : σ[id]? = some (.cells d 1 (l.map zG))) (i : l ≠ []) {u : Value} (r : zh g w σ (.one (.own id d 0 l.length)) u) :
  ∃ c arr t,u = .slice (some ⟨g.ρ id,0,none⟩) l.length c ∧ l.length ≤ c ∧ w.heap[g.ρ id]? = some (.cells arr t (0,0)) ∧ l.length ≤ arr.size ∧ (∀ (j : Nat) x,l[j]? = some x → arr[j]? = some (.int .i64 x)) ∧ g.ow (g.ρ id) = .ob id ∧ ∀ o,¬ g.N (g.ρ id) o:=by
 obtain ⟨a,c,e1,e2,e3,e4⟩:=zhp r b;have e : l.map zG ≠ []:=by simpa using i
 obtain ⟨z,y,arr,t,m,q,n⟩:=R.ob id _ b e;have h : 0 < l.length:=List.length_pos_iff.2 i;obtain ⟨_,f2,_⟩:=e4 (by simp; omega);have p:=f2 (by omega);refine ⟨c,arr,t,(by rw [e1,p]; try simp),e2,m,by simpa using q,fun j x s => ?_,z,y⟩;obtain ⟨_,B⟩:=n j (zG x) (by simp [s]);obtain ⟨v,A,k,_⟩:=B 0 (.f (.lit (.int .i64 x))) (by simp [zG]);simp only [zF,rep] at k;rw [← k.1];simpa using A
theorem zBg (R : Rel g w σ) {l : List Int} {b : Nat} {arr : Array Value} {t : TypeId} (h : w.heap[b]? = some (.cells arr t (0,0))) (d : ∀ (j : Nat) x,l[j]? = some x → arr[j]? = some (.int .i64 x)) : Holds (Value.int .i64) w b 0 l.toArray:=fun j c => by
 have a : j < l.length:=by simpa using c
 refine ⟨?_,by simp [World.frozen?,h]⟩;rw [ziJ h,yz,d j l[j] (by simp [a])];simp [a]
theorem zE9 {q : Nat} {b : Nat} {d : Array Int} {os : Array Obj} {arr : Array Value} {t : TypeId} (h : w.heap[b]? = some (.cells arr t (0,0))) :
  (grow (putRow (Value.int .i64) (Sort.ahead w q) b 0 d) os).heap[b]? = some (.cells (putCells (Value.int .i64) 0 d arr) t (0,0)):=by
 have a : b < w.heap.size:=(yj.1 h).1;simp only [grow,putRow,mapBlock,Sort.ahead];rw [yk (by simpa using a),yq,if_pos rfl,h];rfl
theorem zzq {q : Nat} {b j : Nat} {d : Array Int} {os : Array Obj} (c : j < w.heap.size) (a : j ≠ b) :
  (grow (putRow (Value.int .i64) (Sort.ahead w q) b 0 d) os).heap[j]? = w.heap[j]?:=by
 simp only [grow,putRow,mapBlock,Sort.ahead];rw [yk (by simpa using c),yq,if_neg (Ne.symm a)]
theorem zsD (d : Array Int) (arr : Array Value) : (putCells (Value.int .i64) 0 d arr).size = arr.size:=by simp [putCells]
theorem zvh {d : Array Int} {arr : Array Value} {j : Nat} (a : j < d.size) (hd : d.size ≤ arr.size) : (putCells (Value.int .i64) 0 d arr)[j]? = some (.int .i64 d[j]):=by
 have b : j < arr.size:=by omega
 have c : j < (putCells (Value.int .i64) 0 d arr).size:=by rw [zsD]; exact b
 rw [Array.getElem?_eq_getElem c];simp [putCells,a]
theorem zD2 (R : Rel g w σ) {id c : Nat} {l : List Int} (a : σ[id]? = some (.cells c 1 (l.map zG))) {d : Array Int} {arr : Array Value} {t : TypeId}
  (y : w.heap[g.ρ id]? = some (.cells arr t (0,0))) (m : g.ow (g.ρ id) = .ob id) (u : ∀ o,¬ g.N (g.ρ id) o) (q : Nat) (os : Array Obj) :
  Ext g w σ (g.give (g.ρ id)) (grow (putRow (Value.int .i64) (Sort.ahead w q) (g.ρ id) 0 d) os) (σ.set id (.cells (c + 1) 1 [])) ∧
  Rel (g.give (g.ρ id)) (grow (putRow (Value.int .i64) (Sort.ahead w q) (g.ρ id) 0 d) os) (σ.set id (.cells (c + 1) 1 [])):=by
 have i : g.ρ id < w.heap.size:=(yj.1 y).1
 refine replace (g':=g.give (g.ρ id)) R a (fun b => b = g.ρ id) rfl rfl rfl (by simp [grow,Sort.ahead]) (fun b i r => ⟨zzq i r,rfl,fun o h => h.elim (fun x => x) (fun e => absurd e r)⟩)
  (fun b i => ⟨.inl (by rw [i]; exact m),rfl,fun o h => absurd (by rw [i] at h; exact h) (u o)⟩) (fun _ _ _ h => .inl h) (fun _ _ => rfl) (fun _ _ _ => rfl)
  (fun b o h => by
   simp only [grow,Array.size_append,size_putRow,Sort.ahead];rcases h with h | h
   ·have:=R.nb b o h; omega
   ·omega) ?_ ?_ ?_ (fun _ _ h => by cases h) ?_
 ·intro s v p j
  rw [zC a] at j;injection j with j;injection j with h1 h2;injection h2 with h2 h3;subst h1 h2;exact .inr ⟨c + 1,0,by rw [zC (zE a)]; rfl,by omega⟩
 ·intro es' h; cases h
 ·intro k n h; simp [zow,a,Ob.fr] at h
 ·intro H f
  exact absurd rfl f
end
end Go.A
namespace Go.A
open Go.Lib
def zhr : Option Int → List Int → List Int
 | _,[] => []
 | p,x :: r => if p = some x then zhr p r else x :: zhr (some x) r
theorem zn6 : ∀ (r : List Int) (x : Int),x :: zhr (some x) r = zai (x :: r)
 | [],x => rfl
 | y :: r,x => by
   simp only [zai,zhr]
   by_cases h : x = y
   ·subst h
    rw [if_pos rfl,if_pos rfl];exact zn6 r x
   ·rw [if_neg (by simpa using h),if_neg h,zn6 r y]
theorem zsK (l : List Int) : zhr none l = zai l:=by
 cases l with
 | nil => rfl
 | cons x r => simp [zhr,zn6]
theorem zuG (l : List Int) : ∀ (n k : Nat),k + n = l.length → (((List.range' k n).filter (keeps l.toArray)).map (l.toArray[·]!)) = zhr (if k = 0 then none else l[k - 1]?) (l.drop k)
 | 0,k,h => by
   rw [List.drop_of_length_le (by omega)];simp [zhr]
 | n + 1,k,h => by
   have f : k < l.length:=(by omega);have d:=zuG l n (k + 1) (by omega);rw [yc f];simp only [List.range'_succ,zhr,List.filter_cons];simp only [Nat.add_one_ne_zero,if_false,Nat.add_sub_cancel,yn f] at d;have e : l.toArray[k]! = l[k]:=by simp [f]
   by_cases c : k = 0
   ·subst c
    have a : keeps l.toArray 0 = true:=(by simp [keeps]);rw [a,if_pos rfl,if_pos rfl,if_neg (by simp),yu,d,e]
   ·have b : k - 1 < l.length:=by omega
    have e1 : l.toArray[k - 1]! = l[k - 1]:=(by simp [b]);rw [if_neg c,yn b]
    by_cases hd : l[k - 1] = l[k]
    ·have a : keeps l.toArray k = false:=by
      have : ¬ l.toArray[k]! ≠ l.toArray[k - 1]!:=(by rw [e,e1,hd]; simp);simp only [keeps,c,false_or,decide_eq_false_iff_not];exact this
     simp only [a,Bool.false_eq_true,if_false];rw [if_pos (by rw [hd]),d,hd]
    ·have a : keeps l.toArray k = true:=by
      have : l.toArray[k]! ≠ l.toArray[k - 1]!:=by rw [e,e1]; exact fun h => hd h.symm
      simp only [keeps,c,false_or,decide_eq_true_eq];exact this
     simp only [a,if_true,yu];rw [if_neg (by simpa using hd),d,e]
theorem zy3 (l : List Int) : Lib.compact l = zai l:=by
 have:=zuG l l.length 0 (by simp);simp only [if_true,yr] at this;rw [← zsK,← this,Lib.compact,compactUpTo,List.range_eq_range']
theorem zq5 : ∀ l : List Int,(zai l).length ≤ l.length
 | [] => by simp [zai]
 | [x] => by simp [zai]
 | x :: y :: r => by
   have:=zq5 (y :: r);simp only [zai];split
   ·simp only [yh] at this ⊢; omega
   ·simp only [yh] at this ⊢; omega
end Go.A
namespace Go.Proofs
open Go.Shelf
def Tryz.sorted_ren : Go.Shelf.Ren:=⟨fun | 6 => 145 | 8 => 176 | 9 => 117 | 11 => 226 | 13 => 168 | 12 => 167 | 23 => 222 | 24 => 223 | 14 => 213 | 15 => 214 | 16 => 215 | 17 => 216 | 18 => 217 | 19 => 218 | 20 => 219 | 21 => 220 | 22 => 221 | 25 => 241 | 26 => 242 | 27 => 243 | 28 => 244 | 29 => 245 | 30 => 246 | 31 => 256 | n => n,fun | 26 => 3 | 28 => 177 | 24 => 22 | 0 => 0 | 3 => 3 | 37 => 199 | 48 => 230 | 50 => 49 | 4 => 4 | 40 => 225 | 39 => 224 | 45 => 138 | 5 => 5 | 9 => 9 | 51 => 244 | 55 => 248 | 57 => 254 | 58 => 144 | 33 => 48 | n => n,fun | n => n⟩
theorem Tryz.sorted : Go.Proofs.SlLaysZI.n6 Tryz.prog Tryz.sorted_ren:={
 mixed:=by kernel_rfl
 f6:=⟨Tryz.f145.name,by decide,Tryz.func145.trans (congrArg some (by kernel_rfl))⟩
 f8:=⟨Tryz.f176.name,by decide,Tryz.func176.trans (congrArg some (by kernel_rfl))⟩
 f11:=⟨Tryz.f226.name,by decide,Tryz.func226.trans (congrArg some (by kernel_rfl))⟩
 t0:=Tryz.underlying0
 a0:=Tryz.isAgg0
 z0:=Tryz.sizeOf0
 v0:=Tryz.zeroValue0
 t24:=Tryz.underlying22
 a24:=Tryz.isAgg22
 z24:=Tryz.sizeOf22
 v24:=Tryz.zeroValue22
 t26:=Tryz.underlying3
 a26:=Tryz.isAgg3
 z26:=Tryz.sizeOf3
 v26:=Tryz.zeroValue3
 t28:=Tryz.underlying177
 a28:=Tryz.isAgg177
 z28:=Tryz.sizeOf177
 v28:=Tryz.zeroValue177
 i26:=by kernel_rfl }
def Tryz.sort_ren : Go.Shelf.Ren:=⟨fun | 5 => 117 | 8 => 168 | 7 => 167 | 19 => 222 | 20 => 223 | 10 => 213 | 11 => 214 | 12 => 215 | 13 => 216 | 14 => 217 | 15 => 218 | 16 => 219 | 17 => 220 | 18 => 221 | 30 => 241 | 31 => 242 | 32 => 243 | 33 => 244 | 34 => 245 | 35 => 246 | 40 => 256 | n => n,fun | 23 => 22 | 25 => 3 | 3 => 3 | 32 => 199 | 22 => 22 | 0 => 0 | 44 => 230 | 46 => 49 | 4 => 4 | 36 => 225 | 35 => 224 | 41 => 138 | 5 => 5 | 9 => 9 | 53 => 244 | 57 => 248 | 63 => 254 | 64 => 144 | n => n,fun | n => n⟩
theorem Tryz.sort : Go.Proofs.SlLaysM.n5 Tryz.prog Tryz.sort_ren:={
 mixed:=by kernel_rfl
 f5:=⟨Tryz.f117.name,by decide,Tryz.func117.trans (congrArg some (by kernel_rfl))⟩
 f7:=⟨Tryz.f167.name,by decide,Tryz.func167.trans (congrArg some (by kernel_rfl))⟩
 f8:=Tryz.func168.trans (congrArg some (by kernel_rfl))
 f10:=⟨Tryz.f213.name,by decide,Tryz.func213.trans (congrArg some (by kernel_rfl))⟩
 f11:=⟨Tryz.f214.name,by decide,Tryz.func214.trans (congrArg some (by kernel_rfl))⟩
 f12:=⟨Tryz.f215.name,by decide,Tryz.func215.trans (congrArg some (by kernel_rfl))⟩
 f13:=⟨Tryz.f216.name,by decide,Tryz.func216.trans (congrArg some (by kernel_rfl))⟩
 f14:=⟨Tryz.f217.name,by decide,Tryz.func217.trans (congrArg some (by kernel_rfl))⟩
 f15:=⟨Tryz.f218.name,by decide,Tryz.func218.trans (congrArg some (by kernel_rfl))⟩
 f16:=⟨Tryz.f219.name,by decide,Tryz.func219.trans (congrArg some (by kernel_rfl))⟩
 f17:=⟨Tryz.f220.name,by decide,Tryz.func220.trans (congrArg some (by kernel_rfl))⟩
 f18:=⟨Tryz.f221.name,by decide,Tryz.func221.trans (congrArg some (by kernel_rfl))⟩
 f19:=Tryz.func222.trans (congrArg some (by kernel_rfl))
 f20:=Tryz.func223.trans (congrArg some (by kernel_rfl))
 f30:=⟨Tryz.f241.name,by decide,Tryz.func241.trans (congrArg some (by kernel_rfl))⟩
 f31:=Tryz.func242.trans (congrArg some (by kernel_rfl))
 f32:=Tryz.func243.trans (congrArg some (by kernel_rfl))
 f33:=⟨Tryz.f244.name,by decide,Tryz.func244.trans (congrArg some (by kernel_rfl))⟩
 f34:=⟨Tryz.f245.name,by decide,Tryz.func245.trans (congrArg some (by kernel_rfl))⟩
 f35:=⟨Tryz.f246.name,by decide,Tryz.func246.trans (congrArg some (by kernel_rfl))⟩
 f40:=⟨Tryz.f256.name,by decide,Tryz.func256.trans (congrArg some (by kernel_rfl))⟩
 t0:=Tryz.underlying0
 a0:=Tryz.isAgg0
 z0:=Tryz.sizeOf0
 v0:=Tryz.zeroValue0
 t3:=Tryz.underlying3
 a3:=Tryz.isAgg3
 z3:=Tryz.sizeOf3
 v3:=Tryz.zeroValue3
 t4:=Tryz.underlying4
 a4:=Tryz.isAgg4
 z4:=Tryz.sizeOf4
 v4:=Tryz.zeroValue4
 t5:=Tryz.underlying5
 a5:=Tryz.isAgg5
 z5:=Tryz.sizeOf5
 v5:=Tryz.zeroValue5
 t9:=Tryz.underlying9
 a9:=Tryz.isAgg9
 z9:=Tryz.sizeOf9
 v9:=Tryz.zeroValue9
 t22:=Tryz.underlying22
 a22:=Tryz.isAgg22
 z22:=Tryz.sizeOf22
 v22:=Tryz.zeroValue22
 t23:=Tryz.underlying22
 a23:=Tryz.isAgg22
 z23:=Tryz.sizeOf22
 v23:=Tryz.zeroValue22
 t25:=Tryz.underlying3
 a25:=Tryz.isAgg3
 z25:=Tryz.sizeOf3
 v25:=Tryz.zeroValue3
 t32:=Tryz.underlying199
 a32:=Tryz.isAgg199
 z32:=Tryz.sizeOf199
 v32:=Tryz.zeroValue199
 t35:=Tryz.underlying224
 a35:=Tryz.isAgg224
 z35:=Tryz.sizeOf224
 v35:=Tryz.zeroValue224
 t36:=Tryz.underlying225
 a36:=Tryz.isAgg225
 z36:=Tryz.sizeOf225
 v36:=Tryz.zeroValue225
 t41:=Tryz.underlying138
 a41:=Tryz.isAgg138
 z41:=Tryz.sizeOf138
 v41:=Tryz.zeroValue138
 t44:=Tryz.underlying230
 a44:=Tryz.isAgg230
 z44:=Tryz.sizeOf230
 v44:=Tryz.zeroValue230
 t46:=Tryz.underlying49
 a46:=Tryz.isAgg49
 z46:=Tryz.sizeOf49
 v46:=Tryz.zeroValue49
 t53:=Tryz.underlying244
 a53:=Tryz.isAgg244
 z53:=Tryz.sizeOf244
 v53:=Tryz.zeroValue244
 t57:=Tryz.underlying248
 a57:=Tryz.isAgg248
 z57:=Tryz.sizeOf248
 v57:=Tryz.zeroValue248
 t63:=Tryz.underlying254
 a63:=Tryz.isAgg254
 z63:=Tryz.sizeOf254
 v63:=Tryz.zeroValue254
 t64:=Tryz.underlying144
 a64:=Tryz.isAgg144
 z64:=Tryz.sizeOf144
 v64:=Tryz.zeroValue144 }
def Tryz.compact_ren : Go.Shelf.Ren:=⟨fun | 43 => 118 | n => n,fun | 22 => 22 | 23 => 3 | 3 => 3 | 4 => 4 | 0 => 0 | n => n,fun n => n⟩
theorem Tryz.compact : Go.Proofs.SlLaysN.n43 Tryz.prog Tryz.compact_ren:={
 mixed:=by kernel_rfl
 f43:=⟨Tryz.f118.name,by decide,Tryz.func118.trans (congrArg some (by kernel_rfl))⟩
 t0:=Tryz.underlying0
 a0:=Tryz.isAgg0
 z0:=Tryz.sizeOf0
 v0:=Tryz.zeroValue0
 t3:=Tryz.underlying3
 a3:=Tryz.isAgg3
 z3:=Tryz.sizeOf3
 v3:=Tryz.zeroValue3
 t4:=Tryz.underlying4
 a4:=Tryz.isAgg4
 z4:=Tryz.sizeOf4
 v4:=Tryz.zeroValue4
 t22:=Tryz.underlying22
 a22:=Tryz.isAgg22
 z22:=Tryz.sizeOf22
 v22:=Tryz.zeroValue22
 t23:=Tryz.underlying3
 a23:=Tryz.isAgg3
 z23:=Tryz.sizeOf3
 v23:=Tryz.zeroValue3
 i23:=by kernel_rfl }
end Go.Proofs
namespace Go.Proofs
open Go.A Go.Sort
theorem zyQ {g : G} {w : World} {σ : zd} {id b : Nat} (d : σ[id]? = some (.cells b 1 [])) {u : Value} (e : zh g w σ (.one (.own id b 0 0)) u) : ∃ a,u = .slice a 0 0:=by
 obtain ⟨a,c,e1,e2,e3,e4⟩:=zhp e d;exact ⟨a,by rw [e1,e3 rfl]⟩
theorem zpn {σ : zd} {id : Nat} {o : Ob} (h : σ[id]? = some o) : σ.set id o = σ:=by
 apply List.ext_getElem?;intro j;rw [List.getElem?_set]
 by_cases e : id = j
 ·subst e
  rw [if_pos rfl,if_pos (yb.1 h).1,h]
 ·rw [if_neg e]
theorem Tryz.ext_compact (args : List V) (σ : zd) (v : V) (σ' : zd) (h : zja args σ = some (v,σ')) :
  Go.A.Enters Tryz.prog 118 ∧ ∀ g w us,Rel g w σ → zO g w σ args us → Calls Tryz.prog 118 us.toArray w fun e w' => ∃ u g',e = .returned u ∧ zh g' w' σ' v u ∧ Rel g' w' σ' ∧ Ext g w σ g' w' σ':=by
 refine ⟨⟨Tryz.f118,_,Tryz.func118,by kernel_rfl,rfl⟩,fun g w us z r => ?_⟩
 have p : ∀ (g : G) (w : World) (σ : zd) a c,zh g w σ (vsl []) (.slice a 0 c):=fun g w σ a c => by
  simp only [vsl,zh,zF,rep];exact ⟨a,c,0,rfl,by simp,by simp only [zcs],by simp⟩
 unfold zja at h;split at h
 ·injection h with h
  simp only [Prod.mk.injEq] at h;obtain ⟨rfl,rfl⟩:=h;simp only [zO,zh,zF,rep] at r;obtain ⟨u,rest,rfl,⟨a,c,sz,rfl,_⟩,rfl⟩:=r;have s:=AnyG.slices_Compact_int_empty Tryz.compact a c w;refine Calls.mono (f:=118) s fun e w' he => ?_;obtain ⟨rfl,rfl⟩:=he;exact ⟨_,g,rfl,p _ _ _ _ _,z,Ext.refl _ _ _⟩
 ·rename_i id E n
  rw [ya] at h;obtain ⟨l,B,C⟩:=h;rw [yf] at B;obtain ⟨o,m,B⟩:=B;obtain ⟨rfl,X,D⟩:=zuP B;subst X;simp only [zoy,Prod.mk.injEq] at C;obtain ⟨rfl,rfl⟩:=C;simp only [zO] at r;obtain ⟨u,rest,rfl,r,rfl⟩:=r
  by_cases P : l = []
  ·subst P
   obtain ⟨a,rfl⟩:=zyQ m r;have s:=AnyG.slices_Compact_int_empty Tryz.compact a 0 w;refine Calls.mono (f:=118) s fun e w' he => ?_;obtain ⟨rfl,rfl⟩:=he
   obtain ⟨H,J⟩:=replace (g':=g) (w':=w') (new:=.cells (E + 1) 1 []) z m (fun _ => False) rfl rfl rfl (yw _) (fun b _ _ => ⟨rfl,rfl,fun _ h => h⟩) (fun b W => W.elim) (fun _ _ _ h => h) (fun _ _ => rfl) (fun _ _ _ => rfl) (fun b o h => z.nb b o h)
    (fun Q U N I => by
     rw [zC m] at I;injection I with I;injection I with B C;injection C with C h3;subst B C
     exact .inr ⟨E + 1,0,by rw [zC (zE m)]; rfl,by omega⟩)
    (fun es' h => by cases h) (fun k n h => by simp [zow,m,Ob.fr] at h) (fun _ _ h => by cases h) (fun H L => absurd rfl L)
   exact ⟨_,g,rfl,p _ _ _ _ _,J,H⟩
  ·obtain ⟨c,arr,t,rfl,q1,M,q3,q4,Z,S⟩:=zEY z m P r
   have s:=AnyG.slices_Compact_int Tryz.compact (g.ρ id) 0 c l w (zBg z M q4) (by unfold LIM at D; omega) q1;rw [zy3] at s;refine Calls.mono (f:=118) s fun e w' he => ?_;obtain ⟨rfl,q,rfl⟩:=he;have hle:=zq5 l;obtain ⟨H,J⟩:=zD2 z m (d:=(zai l ++ yd (l.length - (zai l).length) 0).toArray) M Z S q #[];have R:=zE9 (w:=w) (q:=q) (os:=#[]) (d:=(zai l ++ yd (l.length - (zai l).length) 0).toArray) M;rw [grow_empty] at H J R;refine ⟨_,g.give (g.ρ id),rfl,?_,J,H⟩;simp only [vsl,zh,zF,rep,yx];refine ⟨_,c,1,rfl,by omega,zfs (fun e he => by obtain ⟨x,_,rfl⟩:=List.mem_map.1 he; rfl),.inr ⟨g.ρ id,0,rfl,zgw fun i e he => zi7 fun j x K => ?_⟩⟩;rw [List.getElem?_map,ya] at he;obtain ⟨y,O,rfl⟩:=he
   cases j with
   | succ j => simp [zzr] at K
   | zero =>
     simp [zzr] at K;subst K;have Y : i < (zai l).length:=(yb.1 O).1;refine ⟨.int .i64 y,.inr rfl,?_,by simp [rep,zBx]⟩;rw [ziJ R,yz,Nat.mul_one,Nat.add_zero,zvh (by simp; omega) (by simp; omega)];have:=(yb.1 O).2;simp [List.getElem_append_left Y,this]
 ·cases h
end Go.Proofs

/- A part of the proof of SchedFlat. Conditions: none. -/
import Derived.Test.YtmkncmffaaninaaGreatFBJ
import Derived.Test.YtmkncmffaaninaaGreatFAQ
import Derived.Test.YtmkncmffaaninaaGreatFAW
set_option linter.all false
open List renaming getElem?_eq_getElem → ya,getElem_mem → yb,drop_eq_getElem_cons → yc,getElem?_map → ye,mem_cons_of_mem → yh,getD_eq_getElem?_getD → yk,length_map → yl,mem_cons_self → ym,drop_zero → yn,map_nil → yo,length_cons → yp,mem_of_getElem? → yq,mem_cons → yt,map_cons → yx
open Int renaming toNat_natCast → yd,natCast_nonneg → yf,lt_irrefl → yg,reduceAdd → yi,natCast_zero → yu
open Option renaming bind_some → yj
open Bool renaming false_ne_true → yr,false_and → yv,true_and → yw
open Nat renaming le_trans → ys,le_refl → yy
namespace AC
open Go Go.A Go.A.Lex
theorem zs1 (ops : List POp) (a : Nat) : (ziN ops a).length ≤ a:=by
 unfold ziN;rw [yl];exact ys (List.length_filter_le _ _) (by simp)
theorem zpa {b : PBlock} (h1 : OneDef b.ops) (e : b.ops.length ≤ 1000) : ∀ l ∈ zg9 b,l.length ≤ 1000:=fun l c => by
 rw [zru h1] at c;obtain ⟨a,d,rfl⟩:=List.mem_map.1 c;have:=zs1 b.ops a;have:=List.mem_range.1 d;omega
theorem zmJ (b : PBlock) : (zg9 b).length = b.ops.length:=by unfold zg9; exact zjf _ _ _ _
section
variable (b : PBlock) (hb : okB b) (h1 : OneDef b.ops) (hs : ∀ o ∈ b.ops,o.args.length ≤ 64) (hn2 : b.ops.length ≤ 1000)
include hb h1 hs hn2
theorem zwJ (order : List Int) (f : order.length ≤ 4294967296) : call T 65 [znB b,vIs order] [] = some (vB (zrd b order),[]):=by
 rw [ze (fn:=zfH) rfl];have a:=zrk b hb hs b.ops.length rfl hn2;simp -implicitDefEqProofs only [go_sem] at a;unfold zrd
 by_cases c : order.length = b.ops.length
 ·have d : (order.length : Int) = (b.ops.length : Int):=by omega
  obtain ⟨i,h⟩:=zAw b b.ops.length rfl hn2 (zg9 b) (zmJ b) (fun l g => ys (zpa h1 hn2 l g) (by omega)) order c b.ops.length 0 [] [] (by omega) (by omega) zme.nil;rw [yn] at h;rw [decide_eq_true c,yw]
  cases e : zf1 (zg9 b) b.ops.length [] order with
  | true =>
    simp -implicitDefEqProofs only [go_sem,e,zh4,yo] at h;simp -implicitDefEqProofs only [go_sem,zfH,c,a,h]
  | false =>
    rw [e] at h;simp -implicitDefEqProofs only [go_sem,zh4,yo,if_neg yr] at h;simp -implicitDefEqProofs only [go_sem,zfH,c,a,h]
 ·have d : ¬ (order.length : Int) = (b.ops.length : Int):=by omega
  rw [decide_eq_false c,yv];simp -implicitDefEqProofs only [go_sem,zfH,c,d]
end
def zjB (f : PFunc) (k : Int) (order : List Int) : Bool:=zgt f k && (match f.blocks[k.toNat]? with | some b => zrd b order | none => false)
theorem ze5 (f : PFunc) (g : okF f) (k : Int) (order : List Int) (b : order.length ≤ 4294967296) : call T 20 [zfZ f,vI k,vIs order] [] = some (vB (zjB f k order),[]):=by
 rw [ze (fn:=zgG) rfl];have a:=zjl f g k;unfold zjB
 cases e : zgt f k with
 | false =>
   rw [e] at a;simp -implicitDefEqProofs only [go_sem] at a;rw [yv];simp -implicitDefEqProofs only [go_sem,zgG,a]
 | true =>
   obtain ⟨i,j,c⟩:=zi7.1 e;have d : k.toNat < f.blocks.length:=(by omega);have hb : f.blocks[k.toNat]? = some f.blocks[k.toNat]:=ya d;have hm:=yb d;have h:=zwJ f.blocks[k.toNat] (g.block _ hm) (c.oneDef hm) (c.size hm).2 (c.size hm).1 order b;rw [e] at a;rw [hb,yw];simp -implicitDefEqProofs only [go_sem] at a h;simp -implicitDefEqProofs only [go_sem,zgG,a,i,zm d,rb,ye,hb,h]
end AC
namespace AC
open Go Go.A
def zoc (ops : List POp) (order : List Int) : List POp:=order.map fun a => ops.getD a.toNat op0
def zqp (b : PBlock) (order : List Int) : PBlock:=⟨b.phis,zoc b.ops order,b.kind,b.arg,b.to⟩
def zEh (f : PFunc) (k : Nat) (order : List Int) : PFunc:=match f.blocks[k]? with
 | some b => ⟨f.params,f.ret,f.blocks.set k (zqp b order)⟩
 | none => f
theorem zyi (ops : List POp) (order : List Int) : (zoc ops order).length = order.length:=by simp [zoc]
section
variable {f : PFunc} {k : Nat} {b : PBlock} (hb : f.blocks[k]? = some b) (order : List Int)
include hb
theorem zz2 : zEh f k order = ⟨f.params,f.ret,f.blocks.set k (zqp b order)⟩:=by unfold zEh; rw [hb]
end
def LB : Nat:=140737488351232
structure anyB (b : PBlock) : Prop where
 phis : b.phis.length ≤ LB
 ops : b.ops.length ≤ LB
 phi : ∀ p ∈ b.phis,p.src.length ≤ LB ∧ p.args.length ≤ LB
 op : ∀ o ∈ b.ops,(0 ≤ o.imm ∧ o.imm < 18446744073709551616) ∧ o.args.length ≤ LB
 to : b.to.length ≤ LB
structure anyF (f : PFunc) : Prop where
 params : f.params.length ≤ LB
 blocks : f.blocks.length ≤ LB
 block : ∀ b ∈ f.blocks,anyB b
theorem zuP {n : Nat} (h : n ≤ 9223372036854775807) : Go.IntKind.i64.wrap (n : Int) = (n : Int):=wrap_i64 (by omega) (by omega)
theorem zkn {k n : Nat} (h : k < n) (a : n ≤ LB) : Go.IntKind.i64.wrap ((k : Int) + 1) = ((k + 1 : Nat) : Int):=by
 unfold LB at a;rw [wrap_i64] <;> omega
end AC
namespace AC
open Go Go.A Go.A.Lex
def zwl : Nat → List PPhi → Nat
 | n,[] => n
 | n,p :: r => if n ≤ 20000 then zwl (n + 1 + p.src.length + p.args.length) r else n
def zxV : Nat → List POp → Nat
 | n,[] => n
 | n,o :: r => if n ≤ 20000 then zxV (n + 1 + o.args.length) r else n
def zxU : Nat → List PBlock → Nat
 | n,[] => n
 | n,b :: r => if n ≤ 20000 then zxU (zxV (zwl (n + 1 + b.to.length) b.phis) b.ops) r else n
def zq3 (f : PFunc) : Bool:=decide (zxU f.params.length f.blocks ≤ 20000)
theorem zAg (a : LB = 140737488351232) : ∀ (l : List PPhi) (n : Nat),(∀ p ∈ l,p.src.length ≤ LB ∧ p.args.length ≤ LB) → n ≤ 500000000000000 → zwl n l ≤ 500000000000000
 | [],n,_,h => h
 | p :: l,n,hp,h => by
   have:=hp p ym;rw [zwl];split
   ·exact zAg a l _ (fun q b => hp q (yh _ b)) (by omega)
   ·exact h
theorem zAl (a : LB = 140737488351232) : ∀ (l : List POp) (n : Nat),(∀ p ∈ l,p.args.length ≤ LB) → n ≤ 500000000000000 → zxV n l ≤ 500000000000000
 | [],n,_,h => h
 | p :: l,n,hp,h => by
   have:=hp p ym;rw [zxV];split
   ·exact zAl a l _ (fun q b => hp q (yh _ b)) (by omega)
   ·exact h
section
variable (f : PFunc) (hf : anyF f)
include hf
theorem zGi (i : Nat) (b : i < f.blocks.length) : ∀ (d k n : Nat) (a0 a2 a6 a7 a8 a9 : V),f.blocks[i].phis.length - k = d → k ≤ f.blocks[i].phis.length → n ≤ 1000000000000000 →
  exec T zbL ⟨[a0,.one (.ptr 0 0 0 0),a2,vI (n : Int),vI i,vI k,a6,a7,a8,a9],[.cells 0 3 [zc4 f]],0,0⟩ =
   some (.exit 2,⟨[vU,.one (.ptr 0 0 0 0),vU,vI (zwl n (f.blocks[i].phis.drop k) : Nat),vI i,vU,vU,vU,vU,vU],[.cells 0 3 [zc4 f]],0,0⟩):=by
 have j:=hf.block _ (yb b);intro d
 induction d with
 | zero =>
   intro k n a0 a2 a6 a7 a8 a9 m l o;have a : k = f.blocks[i].phis.length:=(by omega);subst a;have e : f.blocks[i].phis.drop f.blocks[i].phis.length = []:=(by simp);rw [xl zbL rfl,zdO,e,zwl];simp -implicitDefEqProofs only [go_sem,zm b,rb,yg]
 | succ d ih =>
   intro k n a0 a2 a6 a7 a8 a9 m l o;have a : k < f.blocks[i].phis.length:=(by omega);have g : f.blocks[i].phis.drop k = f.blocks[i].phis[k] :: f.blocks[i].phis.drop (k + 1):=yc a;have s:=j.phi _ (yb a);have t : LB = 140737488351232:=rfl;rw [xl zbL rfl,zdO,g,zwl]
   by_cases c : n ≤ 20000
   ·have h : ((n : Nat) : Int) ≤ 20000:=by omega
    have r : Go.IntKind.i64.wrap ((n : Int) + 1) = ((n + 1 : Nat) : Int):=zuP (n:=n + 1) (by omega);have q : Go.IntKind.i64.wrap (((n + 1 : Nat) : Int) + (f.blocks[i].phis[k].src.length : Int)) = ((n + 1 + f.blocks[i].phis[k].src.length : Nat) : Int):=zuP (n:=n + 1 + f.blocks[i].phis[k].src.length) (by omega);have p : Go.IntKind.i64.wrap (((n + 1 + f.blocks[i].phis[k].src.length : Nat) : Int) + (f.blocks[i].phis[k].args.length : Int)) = ((n + 1 + f.blocks[i].phis[k].src.length + f.blocks[i].phis[k].args.length : Nat) : Int):=zuP (n:=n + 1 + f.blocks[i].phis[k].src.length + f.blocks[i].phis[k].args.length) (by omega);have:=ih (k + 1) (n + 1 + f.blocks[i].phis[k].src.length + f.blocks[i].phis[k].args.length) vU vU vU vU vU vU (by omega) (by omega) (by omega);rw [if_pos c];simp -implicitDefEqProofs only [go_sem] at this;simp -implicitDefEqProofs only [go_sem,ilt a,zm b,zm a,rb,rp,h,r,q,p,zkn a j.phis,this]
   ·have h : ¬ ((n : Nat) : Int) ≤ 20000:=by omega
    rw [if_neg c];simp -implicitDefEqProofs only [go_sem,ilt a,zm b,rb,h]
theorem zFT (i : Nat) (b : i < f.blocks.length) : ∀ (d k n : Nat) (a0 a2 a5 a7 a8 a9 : V),f.blocks[i].ops.length - k = d → k ≤ f.blocks[i].ops.length → n ≤ 1000000000000000 →
  exec T zbr ⟨[a0,.one (.ptr 0 0 0 0),a2,vI (n : Int),vI i,a5,vI k,a7,a8,a9],[.cells 0 3 [zc4 f]],0,0⟩ =
   some (.exit 4,⟨[vU,.one (.ptr 0 0 0 0),vU,vI (zxV n (f.blocks[i].ops.drop k) : Nat),vI i,vU,vU,vU,vU,vU],[.cells 0 3 [zc4 f]],0,0⟩):=by
 have j:=hf.block _ (yb b);intro d
 induction d with
 | zero =>
   intro k n a0 a2 a5 a7 a8 a9 m l o;have a : k = f.blocks[i].ops.length:=(by omega);subst a;have e : f.blocks[i].ops.drop f.blocks[i].ops.length = []:=(by simp);rw [xl zbr rfl,zdv,e,zxV];simp -implicitDefEqProofs only [go_sem,zm b,rb,yg]
 | succ d ih =>
   intro k n a0 a2 a5 a7 a8 a9 m l o;have a : k < f.blocks[i].ops.length:=(by omega);have g : f.blocks[i].ops.drop k = f.blocks[i].ops[k] :: f.blocks[i].ops.drop (k + 1):=yc a;have r:=j.op _ (yb a);have s : LB = 140737488351232:=rfl;rw [xl zbr rfl,zdv,g,zxV]
   by_cases c : n ≤ 20000
   ·have h : ((n : Nat) : Int) ≤ 20000:=by omega
    have q : Go.IntKind.i64.wrap ((n : Int) + 1) = ((n + 1 : Nat) : Int):=zuP (n:=n + 1) (by omega);have p : Go.IntKind.i64.wrap (((n + 1 : Nat) : Int) + (f.blocks[i].ops[k].args.length : Int)) = ((n + 1 + f.blocks[i].ops[k].args.length : Nat) : Int):=zuP (n:=n + 1 + f.blocks[i].ops[k].args.length) (by omega);have:=ih (k + 1) (n + 1 + f.blocks[i].ops[k].args.length) vU vU vU vU vU vU (by omega) (by omega) (by omega);rw [if_pos c];simp -implicitDefEqProofs only [go_sem] at this;simp -implicitDefEqProofs only [go_sem,ilt a,zm b,zm a,rb,ro,h,q,p,zkn a j.ops,this]
   ·have h : ¬ ((n : Nat) : Int) ≤ 20000:=by omega
    rw [if_neg c];simp -implicitDefEqProofs only [go_sem,ilt a,zm b,rb,h]
theorem zGf : ∀ (d k n : Nat) (a0 a2 a5 a6 a7 a8 a9 : V),f.blocks.length - k = d → k ≤ f.blocks.length → n ≤ 500000000000000 →
  exec T zbJ ⟨[a0,.one (.ptr 0 0 0 0),a2,vI (n : Int),vI k,a5,a6,a7,a8,a9],[.cells 0 3 [zc4 f]],0,0⟩ =
   some (.exit 0,⟨[vU,vU,vU,vI (zxU n (f.blocks.drop k) : Nat),vU,vU,vU,vU,vU,vU],[.cells 0 3 [zc4 f]],0,0⟩):=by
 have i : LB = 140737488351232:=rfl;intro d
 induction d with
 | zero =>
   intro k n a0 a2 a5 a6 a7 a8 a9 p j q;have a : k = f.blocks.length:=(by omega);subst a;have e : f.blocks.drop f.blocks.length = []:=(by simp);rw [xl zbJ rfl,zdE,e,zxU];simp -implicitDefEqProofs only [go_sem,yg]
 | succ d ih =>
   intro k n a0 a2 a5 a6 a7 a8 a9 p j q;have a : k < f.blocks.length:=(by omega);have g : f.blocks.drop k = f.blocks[k] :: f.blocks.drop (k + 1):=yc a;have b:=hf.block _ (yb a);have l:=b.to;rw [xl zbJ rfl,zdE,g,zxU]
   by_cases c : n ≤ 20000
   ·have h : ((n : Nat) : Int) ≤ 20000:=by omega
    have s : Go.IntKind.i64.wrap ((n : Int) + 1) = ((n + 1 : Nat) : Int):=zuP (n:=n + 1) (by omega);have r : Go.IntKind.i64.wrap (((n + 1 : Nat) : Int) + (f.blocks[k].to.length : Int)) = ((n + 1 + f.blocks[k].to.length : Nat) : Int):=zuP (n:=n + 1 + f.blocks[k].to.length) (by omega);have b1:=zAg i f.blocks[k].phis (n + 1 + f.blocks[k].to.length) b.phi (by omega);have b2:=zAl i f.blocks[k].ops _ (fun o m => (b.op o m).2) b1;have p1:=fun a0 a2 a6 a7 a8 a9 => zGi f hf k a f.blocks[k].phis.length 0 (n + 1 + f.blocks[k].to.length) a0 a2 a6 a7 a8 a9 (by omega) (by omega) (by omega);have p2:=fun a0 a2 a5 a7 a8 a9 => zFT f hf k a f.blocks[k].ops.length 0 (zwl (n + 1 + f.blocks[k].to.length) f.blocks[k].phis) a0 a2 a5 a7 a8 a9 (by omega) (by omega) (by omega);have:=ih (k + 1) (zxV (zwl (n + 1 + f.blocks[k].to.length) f.blocks[k].phis) f.blocks[k].ops) vU vU vU vU vU vU vU (by omega) (by omega) b2;rw [if_pos c];rw [yn] at p1 p2;simp -implicitDefEqProofs only [go_sem] at this p1 p2;simp -implicitDefEqProofs only [go_sem,ilt a,zm a,rb,h,s,r,p1,p2,zkn a hf.blocks,this]
   ·have h : ¬ ((n : Nat) : Int) ≤ 20000:=by omega
    rw [if_neg c];simp -implicitDefEqProofs only [go_sem,ilt a,h]
theorem zrx : call T 61 [zfZ f] [] = some (vB (zq3 f),[]):=by
 have d : LB = 140737488351232:=rfl;have b:=hf.params;rw [ze (fn:=zcb) rfl];have h:=fun a0 a2 a5 a6 a7 a8 a9 => zGf f hf f.blocks.length 0 f.params.length a0 a2 a5 a6 a7 a8 a9 (by omega) (by omega) (by omega);rw [yn] at h;simp -implicitDefEqProofs only [go_sem] at h;unfold zq3
 by_cases c : zxU f.params.length f.blocks ≤ 20000
 ·have a : ((zxU f.params.length f.blocks : Nat) : Int) ≤ 20000:=by omega
  simp -implicitDefEqProofs only [go_sem,zcb,h,c,a]
 ·have a : ¬ ((zxU f.params.length f.blocks : Nat) : Int) ≤ 20000:=by omega
  simp -implicitDefEqProofs only [go_sem,zcb,h,c,a]
theorem zEB : ∀ (d k : Nat) (n : Int),f.blocks.length - k = d → k ≤ f.blocks.length →
  ∃ m : Int,∀ (a0 a2 a5 : V),exec T zbC ⟨[a0,.one (.ptr 0 0 0 0),a2,vI n,vI k,a5],[.cells 0 3 [zc4 f]],0,0⟩ =
    some (.exit 0,⟨[vU,.one (.ptr 0 0 0 0),vU,vI m,vU,vU],[.cells 0 3 [zc4 f]],0,0⟩):=by
 have e : LB = 140737488351232:=rfl;intro d
 induction d with
 | zero =>
   intro k n b c;have a : k = f.blocks.length:=(by omega);subst a;refine ⟨n,fun a0 a2 a5 => ?_⟩;rw [xl zbC rfl,zdy];simp -implicitDefEqProofs only [go_sem,yg]
 | succ d ih =>
   intro k n b c;have a : k < f.blocks.length:=(by omega);obtain ⟨m,hm⟩:=ih (k + 1) (Go.IntKind.i64.wrap (Go.IntKind.i64.wrap (Go.IntKind.i64.wrap (n + 1) + (f.blocks[k].ops.length : Int)) + (f.blocks[k].phis.length : Int))) (by omega) (by omega);refine ⟨m,fun a0 a2 a5 => ?_⟩;have:=hm vU vU vU;rw [xl zbC rfl,zdy];simp -implicitDefEqProofs only [go_sem] at this;simp -implicitDefEqProofs only [go_sem,ilt a,zm a,rb,zkn a hf.blocks,this]
theorem zrW : ∃ b : Bool,call T 16 [zfZ f] [] = some (vB b,[]) ∧ (b = true → zq3 f = true):=by
 obtain ⟨m,hm⟩:=zEB f hf f.blocks.length 0 0 (by omega) (by omega);have a:=zrx f hf;rw [ze (fn:=zC) rfl];simp -implicitDefEqProofs only [go_sem] at hm a;cases c : zq3 f
 ·refine ⟨false,?_,fun h => by cases h⟩
  rw [c] at a;simp -implicitDefEqProofs only [go_sem,zC,hm,a]
 ·rw [c] at a
  by_cases c1 : (f.blocks.length : Int) ≤ 16
  ·have d : ¬ (64 : Int) < (f.blocks.length : Int):=by omega
   by_cases c3 : m ≤ 100
   ·refine ⟨true,?_,fun _ => rfl⟩
    simp -implicitDefEqProofs only [go_sem,zC,hm,a,c1,c3]
   ·by_cases c4 : 512 < m
    ·refine ⟨true,?_,fun _ => rfl⟩
     simp -implicitDefEqProofs only [go_sem,zC,hm,a,c1,d,c3,c4]
    ·refine ⟨false,?_,fun h => by cases h⟩
     simp -implicitDefEqProofs only [go_sem,zC,hm,a,c1,d,c3,c4]
  ·by_cases c2 : (64 : Int) < (f.blocks.length : Int)
   ·refine ⟨true,?_,fun _ => rfl⟩
    simp -implicitDefEqProofs only [go_sem,zC,hm,a,c1,c2]
   ·by_cases c4 : 512 < m
    ·refine ⟨true,?_,fun _ => rfl⟩
     simp -implicitDefEqProofs only [go_sem,zC,hm,a,c1,c2,c4]
    ·refine ⟨false,?_,fun h => by cases h⟩
     simp -implicitDefEqProofs only [go_sem,zC,hm,a,c1,c2,c4]
end
theorem zAC : ∀ (l : List PPhi) (n : Nat),zwl n l ≤ 20000 → n + l.length ≤ zwl n l ∧ ∀ p ∈ l,p.src.length ≤ 20000 ∧ p.args.length ≤ 20000
 | [],n,_ => ⟨yy _,fun _ h => by simp at h⟩
 | p :: l,n,h => by
   rw [zwl] at h ⊢;split at h
   ·rename_i c
    obtain ⟨d,b⟩:=zAC l _ h;rw [if_pos c];refine ⟨by simp only [yp]; omega,fun q a => ?_⟩;rcases yt.1 a with rfl | a
    ·omega
    ·exact b q a
   ·omega
theorem zzw : ∀ (l : List POp) (n : Nat),zxV n l ≤ 20000 → n + l.length ≤ zxV n l ∧ ∀ p ∈ l,p.args.length ≤ 20000
 | [],n,_ => ⟨yy _,fun _ h => by simp at h⟩
 | p :: l,n,h => by
   rw [zxV] at h ⊢;split at h
   ·rename_i c
    obtain ⟨d,b⟩:=zzw l _ h;rw [if_pos c];refine ⟨by simp only [yp]; omega,fun q a => ?_⟩;rcases yt.1 a with rfl | a
    ·omega
    ·exact b q a
   ·omega
theorem zzH : ∀ (l : List PBlock) (n : Nat),(∀ b ∈ l,anyB b) → zxU n l ≤ 20000 → n + l.length + (l.map fun b => b.phis.length + b.ops.length).sum ≤ zxU n l ∧ ∀ b ∈ l,okB b
 | [],n,_,_ => ⟨by simp [zxU],fun _ h => by simp at h⟩
 | b :: l,n,ha,h => by
   rw [zxU] at h ⊢;split at h
   ·rename_i c
    obtain ⟨m,i⟩:=zzH l _ (fun x e => ha x (yh _ e)) h;rw [if_pos c];obtain ⟨k,g⟩:=zzw b.ops _ (show zxV (zwl (n + 1 + b.to.length) b.phis) b.ops ≤ 20000 by omega);obtain ⟨p1,p2⟩:=zAC b.phis _ (show zwl (n + 1 + b.to.length) b.phis ≤ 20000 by omega);refine ⟨by simp only [yp,yx,List.sum_cons]; omega,fun q a => ?_⟩;rcases yt.1 a with rfl | a
    ·have f:=ha q ym
     exact ⟨by omega,by omega,fun p j => by have:=p2 p j; exact ⟨by omega,by omega⟩,fun o d => ⟨(f.op o d).1,by have:=g o d; omega⟩,by omega⟩
    ·exact i q a
   ·omega
theorem zBL {f : PFunc} (hf : anyF f) (h : zq3 f = true) : okF f:=by
 unfold zq3 at h;rw [decide_eq_true_eq] at h;obtain ⟨b,a⟩:=zzH f.blocks _ hf.block h;exact ⟨by omega,by omega,a,by omega⟩
theorem zyJ : ∀ l : List PBlock,zn4 5 (l.map rb) = true
 | [] => rfl
 | b :: r => by simp [zn4,rb,zyJ r]
theorem ztu (l : List PBlock) (c : l ≠ []) (b : l.length ≤ 4294967296) (σ : zd) : call T 62 [vL (l.map rb)] σ = some (.one (.own σ.length 0 0 l.length),σ ++ [.cells 0 5 (l.map zh)]):=by
 rw [zks (g:=zh6 5) rfl];have a : l.map rb ≠ []:=by simpa using c
 have e : (l.map rb).map (fun e => e.map C.f) = l.map zh:=by rw [List.map_map]; rfl
 simp only [zh6,yl,e];rw [if_pos ⟨a,zyJ l,b⟩]
theorem zCJ : ∀ l : List PBlock,zaf (l.map zh) = some (l.map rb)
 | [] => rfl
 | b :: r => by simp [zaf,zdR,ztr,zfF,rb,zCJ r]
theorem zym (a : PBlock) (t q : Nat) : ∀ (l : List PBlock) (k : Nat),zaf ((l.map zh).set k [.f (.sl (a.phis.map rp)),.ap t q (a.ops.map ro),.f (ei a.kind),.f (ei a.arg),.f (eI a.to)]) = some ((l.set k a).map rb)
 | [],_ => rfl
 | b :: r,0 => by simp [zaf,zdR,ztr,zfF,rb,zCJ r]
 | b :: r,k + 1 => by simp [zaf,zdR,ztr,zfF,rb,zym a t q r k]
abbrev zF3 : Ob:=.cells 0 3 [[.f (.sl []),.f (.lit (.int .i64 0)),.f (.sl [])]]
abbrev zFZ : PFunc:=⟨[],0,[]⟩
def zFC (f : PFunc) (k : Int) (order : List Int) : PFunc:=if zjB f k order = true then zEh f k.toNat order else zFZ
def zFR (f : PFunc) (k : Int) (order : List Int) : Int:=if zjB f k order = true then 0 else 10
section
variable (f : PFunc) (hf : okF f) (k : Nat) (b : PBlock) (hb : f.blocks[k]? = some b) (order : List Int) (hr : ∀ x ∈ order,0 ≤ x ∧ x < (b.ops.length : Int)) (hol : order.length ≤ 4294967296)
include hf hb hr hol
theorem zDS : ∀ (d i : Nat) (acc : List POp) (a0 a2 a5 a7 a8 a9 a : V),order.length - i = d → i ≤ order.length → acc.length = i →
  exec T zhF ⟨[a0,vI k,a2,.one (.ptr 0 0 0 0),.one (.ptr 1 0 0 0),a5,.one (.ap 2 0 (acc.map ro)),a7,a8,a9,vIs order,vI order.length,vI i,a],[.cells 0 3 [zc4 f],zF3,.tok 6 [acc.length]],0,0⟩ =
   some (.exit 0,⟨[vU,vI k,vU,.one (.ptr 0 0 0 0),.one (.ptr 1 0 0 0),vU,.one (.ap 2 0 ((acc ++ zoc b.ops (order.drop i)).map ro)),vU,vU,vU,vU,vU,vU,vU],[.cells 0 3 [zc4 f],zF3,.tok 6 [(acc ++ zoc b.ops (order.drop i)).length]],0,0⟩):=by
 intro d
 induction d with
 | zero =>
   intro i acc a0 a2 a5 a7 a8 a9 a p n q;have o : i = order.length:=(by omega);subst o;rw [xl zhF rfl,zj3,List.drop_length];simp -implicitDefEqProofs only [go_sem,yg,zoc,yo,List.append_nil]
 | succ d ih =>
   intro i acc a0 a2 a5 a7 a8 a9 a p n q;have c : i < order.length:=(by omega);have l : order.drop i = order[i] :: order.drop (i + 1):=yc c;obtain ⟨r1,r⟩:=hr _ (yb c);have m : order[i].toNat < b.ops.length:=(by omega);have h : (b.ops.map ro)[order[i].toNat]? = some (ro (b.ops.getD order[i].toNat op0)):=(by simp [m]);have g : acc.length + 1 ≤ LIM:=(by unfold LIM; omega);have j : (f.blocks.map rb)[k]? = some (rb b):=(by simp [hb]);have e : acc ++ zoc b.ops (order[i] :: order.drop (i + 1)) = (acc ++ [b.ops.getD order[i].toNat op0]) ++ zoc b.ops (order.drop (i + 1)):=(by simp only [zoc,yx,List.append_assoc,List.singleton_append]);have e2 : acc.map ro ++ [ro (b.ops.getD order[i].toNat op0)] = (acc ++ [b.ops.getD order[i].toNat op0]).map ro:=(by simp);have:=ih (i + 1) (acc ++ [b.ops.getD order[i].toNat op0]) vU vU vU vU vU vU vU (by omega) (by omega) (by simp; omega);rw [xl zhF rfl,zj3,l,e];rw [← e2] at this;simp -implicitDefEqProofs only [go_sem,rb,ro] at this h j;simp -implicitDefEqProofs only [go_sem,ilt c,zm c,ri,rb,ro,h,j,r1,g,za c hol,this]
end
theorem zqt (f : PFunc) (hf : okF f) (k : Int) (order : List Int) (hol : order.length ≤ 4294967296) : call T 17 [zfZ f,vI k,vIs order] [] = some (.tup [zfZ (zFC f k order),vI (zFR f k order)],[]):=by
 rw [ze (fn:=ziu) rfl];have d:=ze5 f hf k order hol;unfold zFC zFR
 by_cases c : zjB f k order = true
 ·rw [c] at d
  rw [if_pos c,if_pos c];have j:=c;unfold zjB at j;simp only [Bool.and_eq_true] at j;obtain ⟨c1,c2⟩:=j;obtain ⟨t,u,r⟩:=zi7.1 c1;obtain ⟨n,rfl⟩:=Int.eq_ofNat_of_zero_le t;have p : n < f.blocks.length:=by omega
  simp only [yd] at c2;obtain ⟨b,hb⟩ : ∃ b,f.blocks[n]? = some b:=⟨_,ya p⟩;rw [hb] at c2;have s:=(zst (r.oneDef (yq hb))).1 c2;have h:=fun a0 a2 a5 a7 a8 a9 m => zDS f hf n b hb order s.range hol order.length 0 [] a0 a2 a5 a7 a8 a9 m (by omega) (by omega) rfl;have q:=ztu f.blocks (by intro e; rw [e] at p; simp at p) (by have:=hf.blocks; omega);have g : (f.blocks.map zh)[n]? = some (zh b):=by simp [hb]
  have a:=zym (zqp b order) 2 0 f.blocks n;simp only [zqp] at a;have i : zEh f n order = ⟨f.params,f.ret,f.blocks.set n (zqp b order)⟩:=zz2 hb order;have o : ((n : Int) < (f.blocks.length : Int)) = True:=by simp; omega
  simp only [yu,yo,List.nil_append,yn,List.length_nil] at h;have l : ((f.blocks.map zh).set n [.f (.sl (b.phis.map rp)),.ap 2 0 ((zoc b.ops order).map ro),.f (ei b.kind),.f (ei b.arg),.f (eI b.to)]).take f.blocks.length = (f.blocks.map zh).set n [.f (.sl (b.phis.map rp)),.ap 2 0 ((zoc b.ops order).map ro),.f (ei b.kind),.f (ei b.arg),.f (eI b.to)]:=List.take_of_length_le (by simp);simp -implicitDefEqProofs only [go_sem] at d h q g a l;rw [yd,i];simp -implicitDefEqProofs only [go_sem,ziu,d,h,q,g,o,a,l,zqp]
 ·have j : zjB f k order = false:=by simpa using c
  rw [j] at d;rw [if_neg c,if_neg c];simp -implicitDefEqProofs only [go_sem] at d;simp -implicitDefEqProofs only [go_sem,ziu,d,yo]
abbrev fSt (f : PFunc) (b : PBlock) (D : zs8) (out : List Int) : zd:=[.cells 0 3 [zc4 f],.cells 0 5 [zh b],.mp (zh4 vBo D),.tok 1 [out.length]]
abbrev zD6 : V:=.one (.f (.sl [[.lit (.bool true)],[.lit (.bool false)]]))
def zjP (on : List (List Int)) (ops : List POp) (out : List Int) (p : Bool) (a : Nat) : Bool:=decide (pure (ops.getD a op0).kind = p) && zgs on out a
def ziP (on : List (List Int)) (ops : List POp) (out : List Int) (p : Bool) : Nat → Nat → Option Nat
 | 0,_ => none
 | d + 1,k => if zjP on ops out p k = true then some k else ziP on ops out p d (k + 1)
theorem zpl (on : List (List Int)) (ops : List POp) (out : List Int) (p : Bool) : ∀ d k,ziP on ops out p d k = (List.range' k d).find? (zjP on ops out p)
 | 0,_ => rfl
 | d + 1,k => by
   rw [ziP,List.range'_succ,List.find?_cons];cases c : zjP on ops out p k
   ·rw [if_neg (by simp),zpl]
   ·rw [if_pos rfl]
theorem zrA (on : List (List Int)) (ops : List POp) (out : List Int) (p : Bool) : ziP on ops out p ops.length 0 = zhq on ops p out:=by
 rw [zpl,← List.range_eq_range'];rfl
section
variable (f : PFunc) (b : PBlock) (hb : okB b) (n : Nat) (hn : n = b.ops.length) (hn2 : n ≤ 1000) (on : List (List Int)) (hon : on.length = n) (hol : ∀ l ∈ on,l.length ≤ 4294967296)
include hb hn hn2 hon hol
theorem zAY (p : Bool) (i : Int) (D : zs8) (out : List Int) (E : out.length ≤ 100000) (G : zme D out) : ∀ (d k : Nat) (a0 a1 a2 a3 a9 s w t u a20 : V),n - k = d → k ≤ n →
  exec T zdm ⟨[a0,a1,a2,a3,.one (.ptr 1 0 0 0),vLs on,.one (.map 2),.one (.ap 3 0 (out.map ri)),vB p,a9,s,w,zD6,vI 2,vI i,t,vL (b.ops.map ro),vI n,vI k,u,a20],fSt f b D out,0,0⟩ =
   some (match ziP on b.ops out p d k with
    | some a => (.goto 0,⟨[vU,vU,vU,vU,.one (.ptr 1 0 0 0),vLs on,.one (.map 2),.one (.ap 3 0 ((out ++ [(a : Int)]).map ri)),vU,vU,vU,vU,vU,vU,vU,vU,vU,vU,vU,vU,vU],fSt f b (zjr (a : Int) true D) (out ++ [(a : Int)]),0,0⟩)
    | none => (.exit 2,⟨[vU,vU,vU,vU,.one (.ptr 1 0 0 0),vLs on,.one (.map 2),.one (.ap 3 0 (out.map ri)),vU,vU,vU,vU,zD6,vI 2,vI i,vU,vU,vU,vU,vU,vU],fSt f b D out,0,0⟩)):=by
 intro d
 induction d with
 | zero =>
   intro k a0 a1 a2 a3 a9 s w t u a20 I H;have : k = n:=(by omega);subst this;rw [ziP,xl zdm rfl,zex];simp -implicitDefEqProofs only [go_sem,fSt,yg,zgT]
 | succ d ih =>
   intro k a0 a1 a2 a3 a9 s w t u a20 I H;have m : k < b.ops.length:=(by omega);have l : ((k : Int) < (n : Int)) = True:=(by simp; omega);have z : b.ops.getD k op0 = b.ops[k]:=(by rw [yk,ya m]; rfl);have A:=zyh k D;have hw:=G k;have h:=ih (k + 1) vU vU vU vU vU vU vU vU vU vU (by omega) (by omega);have o:=zkZ b.ops[k].kind;rw [ziP]
   by_cases c1 : (k : Int) ∈ out
   ·have e : zjP on b.ops out p k = false:=by unfold zjP zgs; rw [decide_eq_true c1]; simp
    rw [decide_eq_true c1] at hw
    have C : getM (k : Int) D = some true:=by
     unfold zh7 at hw
     cases e : getM (k : Int) D with
     | none => rw [e] at hw; cases hw
     | some v => rw [e] at hw; exact congrArg some hw
    rw [C] at A;rw [e,if_neg (by simp),xl zdm rfl,zex];simp -implicitDefEqProofs only [go_sem,fSt,vBo,Option.map_some] at A h;simp -implicitDefEqProofs only [go_sem,fSt,l,zm m,ro,A,zgT,za m hb.ops,h]
   rw [decide_eq_false c1] at hw
   have c : zhj (k : Int) (zh4 vBo D) = none ∨ zhj (k : Int) (zh4 vBo D) = some (vBo false):=by
    rw [A];unfold zh7 at hw
    cases e : getM (k : Int) D with
    | none => exact .inl rfl
    | some v => rw [e] at hw; right; simp only [Option.getD_some] at hw; rw [hw]; rfl
   by_cases c2 : pure b.ops[k].kind = p
   ·have g : on[k]? = some (on.getD k []):=by rw [yk,ya (by omega)]; rfl
    have B : (on.getD k []).length ≤ 4294967296:=hol _ (yq g);have q:=zoM (fSt f b D out ++ [.cells 0 6 [cOp b.ops[k]]]) 2 D rfl (by unfold Ok; simp -implicitDefEqProofs only [go_sem,fSt,zgT]) (on.getD k []) B;rw [G.all] at q;rw [c2] at o;have j : (p == p) = true:=by simp
    cases c3 : ((on.getD k []).all fun y => decide (y ∈ out)) with
    | false =>
      have e : zjP on b.ops out p k = false:=(by unfold zjP zgs; rw [c3]; simp);rw [c3] at q;rw [e,if_neg (by simp),xl zdm rfl,zex];simp -implicitDefEqProofs only [go_sem,fSt] at o q h;rcases c with c | c
      ·simp -implicitDefEqProofs only [go_sem,fSt,j,l,zm m,ro,c,o,q,g,ye,rl,yf,yd,zgT,za m hb.ops,h]
      ·simp -implicitDefEqProofs only [go_sem,vBo] at c
       simp -implicitDefEqProofs only [go_sem,fSt,j,l,zm m,ro,c,o,q,g,ye,rl,yf,yd,zgT,za m hb.ops,h]
    | true =>
      have e : zjP on b.ops out p k = true:=(by unfold zjP zgs; rw [c3,decide_eq_false c1,z,decide_eq_true c2]; rfl);rw [c3] at q;have r : out.length + 1 ≤ LIM:=(by unfold LIM; omega);have hm:=zCM k true D;have he : out.map ri ++ [[.lit (.int .i64 (k : Int))]] = (out ++ [(k : Int)]).map ri:=(by simp [ri,ei]);have x : (out ++ [(k : Int)]).length = out.length + 1:=(by simp);rw [e,if_pos rfl,xl zdm rfl,zex];simp only [← he];simp -implicitDefEqProofs only [go_sem,fSt] at o q;rcases c with c | c
      ·simp -implicitDefEqProofs only [go_sem,fSt,j,l,zm m,ro,c,o,q,hm,g,x,ye,rl,r,yf,yd,yl,zgT]
      ·simp -implicitDefEqProofs only [go_sem,vBo] at c
       simp -implicitDefEqProofs only [go_sem,fSt,j,l,zm m,ro,c,o,q,hm,g,x,ye,rl,r,yf,yd,yl,zgT]
   ·have e : zjP on b.ops out p k = false:=by unfold zjP; rw [z,decide_eq_false c2]; rfl
    have j : (pure b.ops[k].kind == p) = false:=(by simpa using c2);rw [e,if_neg (by simp),xl zdm rfl,zex];simp -implicitDefEqProofs only [go_sem,fSt] at o h;rcases c with c | c
    ·simp -implicitDefEqProofs only [go_sem,fSt,j,l,zm m,ro,c,o,zgT,za m hb.ops,h]
    ·simp -implicitDefEqProofs only [go_sem,vBo] at c
     simp -implicitDefEqProofs only [go_sem,fSt,j,l,zm m,ro,c,o,zgT,za m hb.ops,h]
end
def zD9 : Go.A.Code:=zw.p1
def zEr : Go.A.Code:=zw.p2.p1
def zFi : Go.A.Code:=zw.p2.p2.p1
def zEO : Go.A.Code:=zw.p2.p2.p2.p1
def zE2 : Go.A.Code:=zw.p2.p2.p2.p2.p1
def zkl : Go.A.Code:=zw.p2.p2.p2.p2.p2.p2
theorem zqZ : zw = .seq zD9 (.seq zEr (.seq zFi (.seq zEO (.seq zE2 (.seq (.label 0) zkl))))):=rfl
theorem zu8 : zgE = .seq .skip zkl:=rfl
section
variable (f : PFunc) (b : PBlock) (hb : okB b) (n : Nat) (hn : n = b.ops.length) (hn2 : n ≤ 1000) (on : List (List Int)) (hon : on.length = n) (hol : ∀ l ∈ on,l.length ≤ 4294967296)
include hb hn hn2 hon hol
theorem zwf (D : zs8) (out : List Int) (m : out.length ≤ 100000) (v : zme D out) (a0 a1 a2 a3 a8 a9 g l j s t u k a20 : V) :
  exec T zbV ⟨[a0,a1,a2,a3,.one (.ptr 1 0 0 0),vLs on,.one (.map 2),.one (.ap 3 0 (out.map ri)),a8,a9,g,l,zD6,vI 2,vI 0,j,s,t,u,k,a20],fSt f b D out,0,0⟩ =
   some (match zdT on b.ops out with
    | some a => (.goto 0,⟨[vU,vU,vU,vU,.one (.ptr 1 0 0 0),vLs on,.one (.map 2),.one (.ap 3 0 ((out ++ [(a : Int)]).map ri)),vU,vU,vU,vU,vU,vU,vU,vU,vU,vU,vU,vU,vU],fSt f b (zjr (a : Int) true D) (out ++ [(a : Int)]),0,0⟩)
    | none => (.exit 0,⟨[vU,vU,vU,vU,vU,vU,vU,.one (.ap 3 0 (out.map ri)),vU,vU,vU,vU,vU,vU,vU,vU,vU,vU,vU,vU,vU],fSt f b D out,0,0⟩)):=by
 have h:=fun (p : Bool) (i : Int) a0 a1 a2 a3 a9 g l j k a20 => zAY f b hb n hn hn2 on hon hol p i D out m v n 0 a0 a1 a2 a3 a9 g l j k a20 (by omega) (by omega);have o:=fun p => zrA on b.ops out p;rw [← hn] at o;have c : (b.ops.length : Int) = n:=by rw [hn]
 have r : Go.IntKind.i64.wrap 1 = 1:=by decide
 have q : Go.IntKind.i64.wrap 2 = 2:=by decide
 simp only [yu,o] at h;unfold zdT
 cases e1 : zhq on b.ops true out with
 | some a =>
   rw [Option.some_or];have d:=h true;rw [e1] at d;simp -implicitDefEqProofs only [go_sem,fSt] at d;rw [xl zbV rfl,zdk];simp -implicitDefEqProofs only [go_sem,fSt,c,d]
 | none =>
   rw [Option.none_or];have d:=h true;rw [e1] at d
   cases e2 : zhq on b.ops false out with
   | some a =>
     have e:=h false;rw [e2] at e;simp -implicitDefEqProofs only [go_sem,fSt] at d e;rw [xl zbV rfl,zdk];simp -implicitDefEqProofs only [go_sem,fSt,c,d,zgT,yi,r,q];rw [xl zbV rfl,zdk];simp -implicitDefEqProofs only [go_sem,fSt,c,e,zgT,yi,r,q]
   | none =>
     have e:=h false;rw [e2] at e;simp -implicitDefEqProofs only [go_sem,fSt] at d e;rw [xl zbV rfl,zdk];simp -implicitDefEqProofs only [go_sem,fSt,c,d,zgT,yi,r,q];rw [xl zbV rfl,zdk];simp -implicitDefEqProofs only [go_sem,fSt,c,e,zgT,yi,r,q];rw [xl zbV rfl,zdk];simp -implicitDefEqProofs only [go_sem,fSt,c,e,zgT,yi,r,q]
theorem zAD : ∀ (d : Nat) (D : zs8) (out : List Int),out.length + d ≤ 100000 → zme D out → zdT on b.ops (zgu on b.ops d out) = none → ∃ D' : zs8,∀ (a0 a1 a2 a3 a8 a9 g k q p o i c l m j a20 : V),
  exec T (.sc zw zgE) ⟨[a0,a1,a2,a3,.one (.ptr 1 0 0 0),vLs on,.one (.map 2),.one (.ap 3 0 (out.map ri)),a8,a9,g,k,q,p,o,i,c,l,m,j,a20],fSt f b D out,0,0⟩ =
   some (.ret,⟨[vU,vU,vU,.one (.ap 3 0 ((zgu on b.ops d out).map ri)),vU,vU,vU,vU,vU,vU,vU,vU,vU,vU,vU,vU,vU,vU,vU,vU,vU],fSt f b D' (zgu on b.ops d out),0,0⟩):=by
 intro d
 have stop : ∀ (D : zs8) (out : List Int),out.length ≤ 100000 → zme D out → zdT on b.ops out = none → ∀ (a0 a1 a2 a3 a8 a9 g k q p o i c l m j a20 : V),
  exec T (.sc zw zgE) ⟨[a0,a1,a2,a3,.one (.ptr 1 0 0 0),vLs on,.one (.map 2),.one (.ap 3 0 (out.map ri)),a8,a9,g,k,q,p,o,i,c,l,m,j,a20],fSt f b D out,0,0⟩ =
   some (.ret,⟨[vU,vU,vU,.one (.ap 3 0 (out.map ri)),vU,vU,vU,vU,vU,vU,vU,vU,vU,vU,vU,vU,vU,vU,vU,vU,vU],fSt f b D out,0,0⟩):=by
  intro D out t s r a0 a1 a2 a3 a8 a9 g k q p o i c l m j a20;have h:=fun a0 a1 a2 a3 a8 a9 g k i c l m j a20 => zwf f b hb n hn hn2 on hon hol D out t s a0 a1 a2 a3 a8 a9 g k i c l m j a20;rw [r] at h;simp -implicitDefEqProofs only [go_sem,fSt] at h
  have e : exec T zkl ⟨[a0,a1,a2,a3,.one (.ptr 1 0 0 0),vLs on,.one (.map 2),.one (.ap 3 0 (out.map ri)),a8,a9,g,k,q,p,o,i,c,l,m,j,a20],fSt f b D out,0,0⟩ =
    some (.ret,⟨[vU,vU,vU,.one (.ap 3 0 (out.map ri)),vU,vU,vU,vU,vU,vU,vU,vU,vU,vU,vU,vU,vU,vU,vU,vU,vU],fSt f b D out,0,0⟩):=by
   simp -implicitDefEqProofs only [go_sem,fSt,zkl,zw,Code.p2,show ((2 : Nat) : Int) = 2 from rfl,h]
  rw [zeR,zu8,zfa,zeS];simp only [yj,zqo];rw [e];simp only [yj,scK]
 induction d with
 | zero =>
   intro D out t s r;rw [zgu] at r ⊢;exact ⟨D,stop D out t s r⟩
 | succ d ih =>
   intro D out t s r
   cases ep : zdT on b.ops out with
   | none =>
     rw [zgu,ep];exact ⟨D,stop D out (by omega) s ep⟩
   | some a =>
     rw [zgu,ep] at r ⊢;obtain ⟨D',u⟩:=ih (zjr (a : Int) true D) (out ++ [(a : Int)]) (by simp; omega) (s.put _) r;refine ⟨D',fun a0 a1 a2 a3 a8 a9 g k q p o i c l m j a20 => ?_⟩;have h:=fun a0 a1 a2 a3 a8 a9 g k i c l m j a20 => zwf f b hb n hn hn2 on hon hol D out (by omega) s a0 a1 a2 a3 a8 a9 g k i c l m j a20;rw [ep] at h
     have e : exec T zkl ⟨[a0,a1,a2,a3,.one (.ptr 1 0 0 0),vLs on,.one (.map 2),.one (.ap 3 0 (out.map ri)),a8,a9,g,k,q,p,o,i,c,l,m,j,a20],fSt f b D out,0,0⟩ =
       some (.goto 0,⟨[vU,vU,vU,vU,.one (.ptr 1 0 0 0),vLs on,.one (.map 2),.one (.ap 3 0 ((out ++ [(a : Int)]).map ri)),vU,vU,vU,vU,vU,vU,vU,vU,vU,vU,vU,vU,vU],fSt f b (zjr (a : Int) true D) (out ++ [(a : Int)]),0,0⟩):=by
      simp -implicitDefEqProofs only [go_sem,fSt] at h;simp -implicitDefEqProofs only [go_sem,fSt,zkl,zw,Code.p2,show ((2 : Nat) : Int) = 2 from rfl,h]
     rw [zeR,zu8,zfa,zeS];simp only [yj,zqo];rw [e];simp only [yj,scK,zof];exact u _ _ _ _ _ _ _ _ _ _ _ _ _ _ _ _ _
end
theorem zyV {b : PBlock} (g : OneDef b.ops) : zdT (zg9 b) b.ops (zls b) = none:=by
 obtain ⟨f,i⟩:=zox g;have c : ∀ a,a < b.ops.length → (a : Int) ∈ zls b:=fun a j => (zi2 i f.nodup f.range).mem_iff.2 (zr6.2 ⟨by omega,by omega⟩)
 cases e : zdT (zg9 b) b.ops (zls b) with
 | none => rfl
 | some a =>
   obtain ⟨h,d⟩:=zqx e;unfold zgs at d;rw [decide_eq_true (c a h)] at d;simp at d
def zuF (f : PFunc) (k : Int) : List Int:=if zgt f k = true then (match f.blocks[k.toNat]? with | some b => zls b | none => []) else []
theorem zoH (f : PFunc) (c : okF f) (k : Int) : call T 25 [zfZ f,vI k] [] = some (vIs (zuF f k),[]):=by
 rw [ze (fn:=zhs) rfl];have b:=zjl f c k
 cases e : zgt f k with
 | false =>
   have eF : zuF f k = []:=(by unfold zuF; rw [e,if_neg yr]);rw [e] at b
   have e1 : exec T (.scope zw) ⟨[zfZ f,vI k,.one (.ptr 0 0 0 0),vL [],vU,vU,vU,vU,vU,vU,vU,vU,vU,vU,vU,vU,vU,vU,vU,vU,vU],[.cells 0 3 [zc4 f]],0,0⟩ =
     some (.ret,⟨[vU,vU,vU,vL [],vU,vU,vU,vU,vU,vU,vU,vU,vU,vU,vU,vU,vU,vU,vU,vU,vU],[.cells 0 3 [zc4 f]],0,0⟩):=by
    rw [zih,zeR,zqZ];simp -implicitDefEqProofs only [go_sem] at b;simp -implicitDefEqProofs only [go_sem,zD9,zw,Code.p1,Code.p2,b]
   simp -implicitDefEqProofs only [go_sem] at e1;simp -implicitDefEqProofs only [go_sem,zhs,e1,eF]
 | true =>
   obtain ⟨q,s,m⟩:=zi7.1 e;have d : k.toNat < f.blocks.length:=(by omega);have g : f.blocks[k.toNat]? = some f.blocks[k.toNat]:=ya d;have hm:=yb d;have eF : zuF f k = zls f.blocks[k.toNat]:=(by unfold zuF; rw [if_pos e,g]);have j:=m.oneDef hm;have a:=m.size hm;have i:=zrk f.blocks[k.toNat] (c.block _ hm) a.2 _ rfl a.1;obtain ⟨r,h⟩:=zAD f f.blocks[k.toNat] (c.block _ hm) f.blocks[k.toNat].ops.length rfl a.1 (zg9 f.blocks[k.toNat]) (zmJ _) (fun l n => ys (zpa j a.1 l n) (by omega)) f.blocks[k.toNat].ops.length [] [] (by simp; omega) zme.nil (zyV j)
   have e1 : exec T (.scope zw) ⟨[zfZ f,vI k,.one (.ptr 0 0 0 0),vL [],vU,vU,vU,vU,vU,vU,vU,vU,vU,vU,vU,vU,vU,vU,vU,vU,vU],[.cells 0 3 [zc4 f]],0,0⟩ =
     some (.ret,⟨[vU,vU,vU,.one (.ap 3 0 ((zls f.blocks[k.toNat]).map ri)),vU,vU,vU,vU,vU,vU,vU,vU,vU,vU,vU,vU,vU,vU,vU,vU,vU],fSt f f.blocks[k.toNat] r (zls f.blocks[k.toNat]),0,0⟩):=by
    have o:=h (zfZ f) (vI k) (.one (.ptr 0 0 0 0)) (vL []) vU vU vU (vB false) vU vU vU vU vU vU vU vU vU;unfold zls;rw [← o];rw [zih,zeR,zeR]
    congr 1
    rw [zu8,zfa,zeS];simp only [yj,zqo];rw [zqZ];rw [e] at b;have p : zh4 vBo [] = []:=rfl;simp -implicitDefEqProofs only [go_sem] at b i;simp -implicitDefEqProofs only [go_sem,fSt,p,zD9,zEr,zFi,zEO,zE2,zw,Code.p1,Code.p2,b,i,q,zm d,rb,ye,g]
    try rfl
   simp -implicitDefEqProofs only [go_sem,fSt] at e1;simp -implicitDefEqProofs only [go_sem,zhs,e1,eF]
noncomputable instance : DecidableEq POp:=fun _ _ => Classical.propDecidable _
noncomputable instance : DecidableEq PPhi:=fun _ _ => Classical.propDecidable _
noncomputable instance : DecidableEq PBlock:=fun _ _ => Classical.propDecidable _
noncomputable instance : DecidableEq PFunc:=fun _ _ => Classical.propDecidable _
section
variable (f g : PFunc) (i : Nat) (x y : PBlock) (hx : okB x)
include hx
end
section
variable (f g : PFunc) (hf : okF f)
include hf
end
end AC

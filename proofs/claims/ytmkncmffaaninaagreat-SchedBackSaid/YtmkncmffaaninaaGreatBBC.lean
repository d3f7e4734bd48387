/- A part of the proof of SchedBack. Conditions: none. -/
import Derived.Test.YtmkncmffaaninaaGreatBAS
import Derived.Test.YtmkncmffaaninaaGreatBBB
set_option linter.unusedVariables false
set_option linter.unusedSimpArgs false
set_option linter.unusedSectionVars false
open List renaming length_map → yc,drop_eq_getElem_cons → ye,mem_append → yf,getElem_mem → yg,drop_length → yi,getD_eq_getElem?_getD → yj,mem_of_getElem? → ym,map_append → yn,getElem?_eq_getElem → yq,mem_cons_of_mem → yu,drop_zero → yv,mem_map_of_mem → yw,mem_cons_self → yx,length_cons → yA,mem_cons → yB,map_cons → yC,mem_map → yD,all_eq_true → yF,map_nil → yG
open Nat renaming zero_add → yh,le_refl → yH
open Int renaming lt_irrefl → yl,toNat_natCast → yy,natCast_zero → yz
open Bool renaming and_eq_true → yE
namespace AC
open Go Go.A Go.A.Lex
def zr6 : Nat → List PPhi → Nat
 | n,[] => n
 | n,p :: r => if n ≤ 20000 then zr6 (n + 1 + p.src.length + p.args.length) r else n
def zun : Nat → List POp → Nat
 | n,[] => n
 | n,o :: r => if n ≤ 20000 then zun (n + 1 + o.args.length) r else n
def zup : Nat → List PBlock → Nat
 | n,[] => n
 | n,b :: r => if n ≤ 20000 then zup (zun (zr6 (n + 1 + b.to.length) b.phis) b.ops) r else n
def znX (f : PFunc) : Bool:=decide (zup f.params.length f.blocks ≤ 20000)
theorem zwt (hL : LB = 140737488351232) : ∀ (l : List PPhi) (n : Nat),(∀ p ∈ l,p.src.length ≤ LB ∧ p.args.length ≤ LB) → n ≤ 500000000000000 → zr6 n l ≤ 500000000000000
 | [],n,_,h => h
 | p :: l,n,hp,h => by
   have:=hp p yx
   rw [zr6]
   split
   ·exact zwt hL l _ (fun q hq => hp q (yu _ hq)) (by omega)
   ·exact h
theorem zvh (hL : LB = 140737488351232) : ∀ (l : List POp) (n : Nat),(∀ p ∈ l,p.args.length ≤ LB) → n ≤ 500000000000000 → zun n l ≤ 500000000000000
 | [],n,_,h => h
 | p :: l,n,hp,h => by
   have:=hp p yx
   rw [zun]
   split
   ·exact zvh hL l _ (fun q hq => hp q (yu _ hq)) (by omega)
   ·exact h
section
variable (f : PFunc) (hf : anyF f)
include hf
theorem zBV (i : Nat) (hi : i < f.blocks.length) : ∀ (d k n : Nat) (a0 a2 a6 a7 a8 a9 : V),f.blocks[i].phis.length - k = d → k ≤ f.blocks[i].phis.length → n ≤ 1000000000000000 →
  exec T zaS ⟨[a0,.one (.ptr 0 0 0 0),a2,vI (n : Int),vI i,vI k,a6,a7,a8,a9],[.cells 0 3 [zbI f]],0,0⟩ =
   some (.exit 2,⟨[vU,.one (.ptr 0 0 0 0),vU,vI (zr6 n (f.blocks[i].phis.drop k) : Nat),vI i,vU,vU,vU,vU,vU],[.cells 0 3 [zbI f]],0,0⟩):=by
 have hb:=hf.block _ (yg hi)
 intro d
 induction d with
 | zero =>
   intro k n a0 a2 a6 a7 a8 a9 h1 h2 h3
   have hk : k = f.blocks[i].phis.length:=by omega
   subst hk
   have e : f.blocks[i].phis.drop f.blocks[i].phis.length = []:=by simp
   rw [xl zaS rfl,zce,e,zr6]
   simp -implicitDefEqProofs only [go_sem,zH hi,rb,yl]
 | succ d ih =>
   intro k n a0 a2 a6 a7 a8 a9 h1 h2 h3
   have hk : k < f.blocks[i].phis.length:=by omega
   have hdk : f.blocks[i].phis.drop k = f.blocks[i].phis[k] :: f.blocks[i].phis.drop (k + 1):=ye hk
   have hp:=hb.phi _ (yg hk)
   have hL : LB = 140737488351232:=rfl
   rw [xl zaS rfl,zce,hdk,zr6]
   by_cases c : n ≤ 20000
   ·have c' : ((n : Nat) : Int) ≤ 20000:=by omega
    have w1 : Go.IntKind.i64.wrap ((n : Int) + 1) = ((n + 1 : Nat) : Int):=zrw (n:=n + 1) (by omega)
    have w2 : Go.IntKind.i64.wrap (((n + 1 : Nat) : Int) + (f.blocks[i].phis[k].src.length : Int)) = ((n + 1 + f.blocks[i].phis[k].src.length : Nat) : Int):=zrw (n:=n + 1 + f.blocks[i].phis[k].src.length) (by omega)
    have w3 : Go.IntKind.i64.wrap (((n + 1 + f.blocks[i].phis[k].src.length : Nat) : Int) + (f.blocks[i].phis[k].args.length : Int)) = ((n + 1 + f.blocks[i].phis[k].src.length + f.blocks[i].phis[k].args.length : Nat) : Int):=zrw (n:=n + 1 + f.blocks[i].phis[k].src.length + f.blocks[i].phis[k].args.length) (by omega)
    have:=ih (k + 1) (n + 1 + f.blocks[i].phis[k].src.length + f.blocks[i].phis[k].args.length) vU vU vU vU vU vU (by omega) (by omega) (by omega)
    rw [if_pos c]
    simp -implicitDefEqProofs only [go_sem] at this
    simp -implicitDefEqProofs only [go_sem,ilt hk,zH hi,zH hk,rb,rp,c',w1,w2,w3,zhV hk hb.phis,this]
   ·have c' : ¬ ((n : Nat) : Int) ≤ 20000:=by omega
    rw [if_neg c]
    simp -implicitDefEqProofs only [go_sem,ilt hk,zH hi,rb,c']
theorem zBD (i : Nat) (hi : i < f.blocks.length) : ∀ (d k n : Nat) (a0 a2 a5 a7 a8 a9 : V),f.blocks[i].ops.length - k = d → k ≤ f.blocks[i].ops.length → n ≤ 1000000000000000 →
  exec T zaX ⟨[a0,.one (.ptr 0 0 0 0),a2,vI (n : Int),vI i,a5,vI k,a7,a8,a9],[.cells 0 3 [zbI f]],0,0⟩ =
   some (.exit 4,⟨[vU,.one (.ptr 0 0 0 0),vU,vI (zun n (f.blocks[i].ops.drop k) : Nat),vI i,vU,vU,vU,vU,vU],[.cells 0 3 [zbI f]],0,0⟩):=by
 have hb:=hf.block _ (yg hi)
 intro d
 induction d with
 | zero =>
   intro k n a0 a2 a5 a7 a8 a9 h1 h2 h3
   have hk : k = f.blocks[i].ops.length:=by omega
   subst hk
   have e : f.blocks[i].ops.drop f.blocks[i].ops.length = []:=by simp
   rw [xl zaX rfl,zb9,e,zun]
   simp -implicitDefEqProofs only [go_sem,zH hi,rb,yl]
 | succ d ih =>
   intro k n a0 a2 a5 a7 a8 a9 h1 h2 h3
   have hk : k < f.blocks[i].ops.length:=by omega
   have hdk : f.blocks[i].ops.drop k = f.blocks[i].ops[k] :: f.blocks[i].ops.drop (k + 1):=ye hk
   have hp:=hb.op _ (yg hk)
   have hL : LB = 140737488351232:=rfl
   rw [xl zaX rfl,zb9,hdk,zun]
   by_cases c : n ≤ 20000
   ·have c' : ((n : Nat) : Int) ≤ 20000:=by omega
    have w1 : Go.IntKind.i64.wrap ((n : Int) + 1) = ((n + 1 : Nat) : Int):=zrw (n:=n + 1) (by omega)
    have w2 : Go.IntKind.i64.wrap (((n + 1 : Nat) : Int) + (f.blocks[i].ops[k].args.length : Int)) = ((n + 1 + f.blocks[i].ops[k].args.length : Nat) : Int):=zrw (n:=n + 1 + f.blocks[i].ops[k].args.length) (by omega)
    have:=ih (k + 1) (n + 1 + f.blocks[i].ops[k].args.length) vU vU vU vU vU vU (by omega) (by omega) (by omega)
    rw [if_pos c]
    simp -implicitDefEqProofs only [go_sem] at this
    simp -implicitDefEqProofs only [go_sem,ilt hk,zH hi,zH hk,rb,ro,c',w1,w2,zhV hk hb.ops,this]
   ·have c' : ¬ ((n : Nat) : Int) ≤ 20000:=by omega
    rw [if_neg c]
    simp -implicitDefEqProofs only [go_sem,ilt hk,zH hi,rb,c']
theorem zBz : ∀ (d k n : Nat) (a0 a2 a5 a6 a7 a8 a9 : V),f.blocks.length - k = d → k ≤ f.blocks.length → n ≤ 500000000000000 →
  exec T zaV ⟨[a0,.one (.ptr 0 0 0 0),a2,vI (n : Int),vI k,a5,a6,a7,a8,a9],[.cells 0 3 [zbI f]],0,0⟩ =
   some (.exit 0,⟨[vU,vU,vU,vI (zup n (f.blocks.drop k) : Nat),vU,vU,vU,vU,vU,vU],[.cells 0 3 [zbI f]],0,0⟩):=by
 have hL : LB = 140737488351232:=rfl
 intro d
 induction d with
 | zero =>
   intro k n a0 a2 a5 a6 a7 a8 a9 h1 h2 h3
   have hk : k = f.blocks.length:=by omega
   subst hk
   have e : f.blocks.drop f.blocks.length = []:=by simp
   rw [xl zaV rfl,zcf,e,zup]
   simp -implicitDefEqProofs only [go_sem,yl]
 | succ d ih =>
   intro k n a0 a2 a5 a6 a7 a8 a9 h1 h2 h3
   have hk : k < f.blocks.length:=by omega
   have hdk : f.blocks.drop k = f.blocks[k] :: f.blocks.drop (k + 1):=ye hk
   have hb:=hf.block _ (yg hk)
   have hto:=hb.to
   rw [xl zaV rfl,zcf,hdk,zup]
   by_cases c : n ≤ 20000
   ·have c' : ((n : Nat) : Int) ≤ 20000:=by omega
    have w1 : Go.IntKind.i64.wrap ((n : Int) + 1) = ((n + 1 : Nat) : Int):=zrw (n:=n + 1) (by omega)
    have w2 : Go.IntKind.i64.wrap (((n + 1 : Nat) : Int) + (f.blocks[k].to.length : Int)) = ((n + 1 + f.blocks[k].to.length : Nat) : Int):=zrw (n:=n + 1 + f.blocks[k].to.length) (by omega)
    have b1:=zwt hL f.blocks[k].phis (n + 1 + f.blocks[k].to.length) hb.phi (by omega)
    have b2:=zvh hL f.blocks[k].ops _ (fun o ho => (hb.op o ho).2) b1
    have p1:=fun a0 a2 a6 a7 a8 a9 => zBV f hf k hk f.blocks[k].phis.length 0 (n + 1 + f.blocks[k].to.length) a0 a2 a6 a7 a8 a9 (by omega) (by omega) (by omega)
    have p2:=fun a0 a2 a5 a7 a8 a9 => zBD f hf k hk f.blocks[k].ops.length 0 (zr6 (n + 1 + f.blocks[k].to.length) f.blocks[k].phis) a0 a2 a5 a7 a8 a9 (by omega) (by omega) (by omega)
    have:=ih (k + 1) (zun (zr6 (n + 1 + f.blocks[k].to.length) f.blocks[k].phis) f.blocks[k].ops) vU vU vU vU vU vU vU (by omega) (by omega) b2
    rw [if_pos c]
    rw [yv] at p1 p2
    simp -implicitDefEqProofs only [go_sem] at this p1 p2
    simp -implicitDefEqProofs only [go_sem,ilt hk,zH hk,rb,c',w1,w2,p1,p2,zhV hk hf.blocks,this]
   ·have c' : ¬ ((n : Nat) : Int) ≤ 20000:=by omega
    rw [if_neg c]
    simp -implicitDefEqProofs only [go_sem,ilt hk,c']
theorem zpb : call T 61 [zgP f] [] = some (vB (znX f),[]):=by
 have hL : LB = 140737488351232:=rfl
 have hp:=hf.params
 rw [ze (fn:=zbl) rfl]
 have h:=fun a0 a2 a5 a6 a7 a8 a9 => zBz f hf f.blocks.length 0 f.params.length a0 a2 a5 a6 a7 a8 a9 (by omega) (by omega) (by omega)
 rw [yv] at h
 simp -implicitDefEqProofs only [go_sem] at h
 unfold znX
 by_cases c : zup f.params.length f.blocks ≤ 20000
 ·have c' : ((zup f.params.length f.blocks : Nat) : Int) ≤ 20000:=by omega
  simp -implicitDefEqProofs only [go_sem,zbl,h,c,c']
 ·have c' : ¬ ((zup f.params.length f.blocks : Nat) : Int) ≤ 20000:=by omega
  simp -implicitDefEqProofs only [go_sem,zbl,h,c,c']
theorem zAO : ∀ (d k : Nat) (n : Int),f.blocks.length - k = d → k ≤ f.blocks.length →
  ∃ m : Int,∀ (a0 a2 a5 : V),exec T zaY ⟨[a0,.one (.ptr 0 0 0 0),a2,vI n,vI k,a5],[.cells 0 3 [zbI f]],0,0⟩ =
    some (.exit 0,⟨[vU,.one (.ptr 0 0 0 0),vU,vI m,vU,vU],[.cells 0 3 [zbI f]],0,0⟩):=by
 have hL : LB = 140737488351232:=rfl
 intro d
 induction d with
 | zero =>
   intro k n h1 h2
   have hk : k = f.blocks.length:=by omega
   subst hk
   refine ⟨n,fun a0 a2 a5 => ?_⟩
   rw [xl zaY rfl,zcd]
   simp -implicitDefEqProofs only [go_sem,yl]
 | succ d ih =>
   intro k n h1 h2
   have hk : k < f.blocks.length:=by omega
   obtain ⟨m,hm⟩:=ih (k + 1) (Go.IntKind.i64.wrap (Go.IntKind.i64.wrap (Go.IntKind.i64.wrap (n + 1) + (f.blocks[k].ops.length : Int)) + (f.blocks[k].phis.length : Int))) (by omega) (by omega)
   refine ⟨m,fun a0 a2 a5 => ?_⟩
   have:=hm vU vU vU
   rw [xl zaY rfl,zcd]
   simp -implicitDefEqProofs only [go_sem] at this
   simp -implicitDefEqProofs only [go_sem,ilt hk,zH hk,rb,zhV hk hf.blocks,this]
theorem zpx : ∃ b : Bool,call T 16 [zgP f] [] = some (vB b,[]) ∧ (b = true → znX f = true):=by
 obtain ⟨m,hm⟩:=zAO f hf f.blocks.length 0 0 (by omega) (by omega)
 have hs:=zpb f hf
 rw [ze (fn:=zz) rfl]
 simp -implicitDefEqProofs only [go_sem] at hm hs
 cases c : znX f
 ·refine ⟨false,?_,fun h => by cases h⟩
  rw [c] at hs
  simp -implicitDefEqProofs only [go_sem,zz,hm,hs]
 ·rw [c] at hs
  by_cases c1 : (f.blocks.length : Int) ≤ 16
  ·have c2' : ¬ (64 : Int) < (f.blocks.length : Int):=by omega
   by_cases c3 : m ≤ 100
   ·refine ⟨true,?_,fun _ => rfl⟩
    simp -implicitDefEqProofs only [go_sem,zz,hm,hs,c1,c3]
   ·by_cases c4 : 512 < m
    ·refine ⟨true,?_,fun _ => rfl⟩
     simp -implicitDefEqProofs only [go_sem,zz,hm,hs,c1,c2',c3,c4]
    ·refine ⟨false,?_,fun h => by cases h⟩
     simp -implicitDefEqProofs only [go_sem,zz,hm,hs,c1,c2',c3,c4]
  ·by_cases c2 : (64 : Int) < (f.blocks.length : Int)
   ·refine ⟨true,?_,fun _ => rfl⟩
    simp -implicitDefEqProofs only [go_sem,zz,hm,hs,c1,c2]
   ·by_cases c4 : 512 < m
    ·refine ⟨true,?_,fun _ => rfl⟩
     simp -implicitDefEqProofs only [go_sem,zz,hm,hs,c1,c2,c4]
    ·refine ⟨false,?_,fun h => by cases h⟩
     simp -implicitDefEqProofs only [go_sem,zz,hm,hs,c1,c2,c4]
end
theorem zwn : ∀ (l : List PPhi) (n : Nat),zr6 n l ≤ 20000 → n + l.length ≤ zr6 n l ∧ ∀ p ∈ l,p.src.length ≤ 20000 ∧ p.args.length ≤ 20000
 | [],n,_ => ⟨yH _,fun _ h => by simp at h⟩
 | p :: l,n,h => by
   rw [zr6] at h ⊢
   split at h
   ·rename_i c
    obtain ⟨h1,h2⟩:=zwn l _ h
    rw [if_pos c]
    refine ⟨by simp only [yA]; omega,fun q hq => ?_⟩
    rcases yB.1 hq with rfl | hq
    ·omega
    ·exact h2 q hq
   ·omega
theorem zwf : ∀ (l : List POp) (n : Nat),zun n l ≤ 20000 → n + l.length ≤ zun n l ∧ ∀ p ∈ l,p.args.length ≤ 20000
 | [],n,_ => ⟨yH _,fun _ h => by simp at h⟩
 | p :: l,n,h => by
   rw [zun] at h ⊢
   split at h
   ·rename_i c
    obtain ⟨h1,h2⟩:=zwf l _ h
    rw [if_pos c]
    refine ⟨by simp only [yA]; omega,fun q hq => ?_⟩
    rcases yB.1 hq with rfl | hq
    ·omega
    ·exact h2 q hq
   ·omega
theorem zva : ∀ (l : List PBlock) (n : Nat),(∀ b ∈ l,anyB b) → zup n l ≤ 20000 → n + l.length + (l.map fun b => b.phis.length + b.ops.length).sum ≤ zup n l ∧ ∀ b ∈ l,okB b
 | [],n,_,_ => ⟨by simp [zup],fun _ h => by simp at h⟩
 | b :: l,n,ha,h => by
   rw [zup] at h ⊢
   split at h
   ·rename_i c
    obtain ⟨h1,h2⟩:=zva l _ (fun x hx => ha x (yu _ hx)) h
    rw [if_pos c]
    obtain ⟨o1,o2⟩:=zwf b.ops _ (show zun (zr6 (n + 1 + b.to.length) b.phis) b.ops ≤ 20000 by omega)
    obtain ⟨p1,p2⟩:=zwn b.phis _ (show zr6 (n + 1 + b.to.length) b.phis ≤ 20000 by omega)
    refine ⟨by simp only [yA,yC,List.sum_cons]; omega,fun q hq => ?_⟩
    rcases yB.1 hq with rfl | hq
    ·have hb:=ha q yx
     exact ⟨by omega,by omega,fun p hp => by have:=p2 p hp; exact ⟨by omega,by omega⟩,fun o ho => ⟨(hb.op o ho).1,by have:=o2 o ho; omega⟩,by omega⟩
    ·exact h2 q hq
   ·omega
theorem zxQ {f : PFunc} (hf : anyF f) (h : znX f = true) : okF f:=by
 unfold znX at h
 rw [decide_eq_true_eq] at h
 obtain ⟨h1,h2⟩:=zva f.blocks _ hf.block h
 exact ⟨by omega,by omega,h2,by omega⟩
end AC
namespace AC
open Go Go.A Go.A.Lex
theorem zvP : ∀ l : List PBlock,zjY 5 (l.map rb) = true
 | [] => rfl
 | b :: r => by simp [zjY,rb,zvP r]
theorem zp5 (l : List PBlock) (hl : l ≠ []) (hn : l.length ≤ 4294967296) (σ : zb) : call T 62 [vL (l.map rb)] σ = some (.one (.own σ.length 0 0 l.length),σ ++ [.cells 0 5 (l.map zw)]):=by
 rw [zhJ (g:=zfy 5) rfl]
 have h1 : l.map rb ≠ []:=by simpa using hl
 have e : (l.map rb).map (fun e => e.map C.f) = l.map zw:=by rw [List.map_map]; rfl
 simp only [zfy,yc,e]
 rw [if_pos ⟨h1,zvP l,hn⟩]
theorem zyG : ∀ l : List PBlock,zX (l.map zw) = some (l.map rb)
 | [] => rfl
 | b :: r => by simp [zX,zbt,zpI,zde,rb,zyG r]
theorem zwT (b' : PBlock) (t q : Nat) : ∀ (l : List PBlock) (k : Nat),zX ((l.map zw).set k [.f (.sl (b'.phis.map rp)),.ap t q (b'.ops.map ro),.f (ei b'.kind),.f (ei b'.arg),.f (eI b'.to)]) = some ((l.set k b').map rb)
 | [],_ => rfl
 | b :: r,0 => by simp [zX,zbt,zpI,zde,rb,zyG r]
 | b :: r,k + 1 => by simp [zX,zbt,zpI,zde,rb,zwT b' t q r k]
abbrev zF3 : Ob:=.cells 0 3 [[.f (.sl []),.f (.lit (.int .i64 0)),.f (.sl [])]]
abbrev zB8 : PFunc:=⟨[],0,[]⟩
def zA4 (f : PFunc) (k : Int) (order : List Int) : PFunc:=if zhe f k order = true then zh4 f k.toNat order else zB8
def zAJ (f : PFunc) (k : Int) (order : List Int) : Int:=if zhe f k order = true then 0 else 10
section
variable (f : PFunc) (hf : okF f) (k : Nat) (b : PBlock) (hb : f.blocks[k]? = some b) (order : List Int) (hr : ∀ x ∈ order,0 ≤ x ∧ x < (b.ops.length : Int)) (hol : order.length ≤ 4294967296)
include hf hb hr hol
theorem zz1 : ∀ (d i : Nat) (acc : List POp) (a0 a2 a5 a7 a8 a9 a13 : V),order.length - i = d → i ≤ order.length → acc.length = i →
  exec T zeZ ⟨[a0,vI k,a2,.one (.ptr 0 0 0 0),.one (.ptr 1 0 0 0),a5,.one (.ap 2 0 (acc.map ro)),a7,a8,a9,vIs order,vI order.length,vI i,a13],[.cells 0 3 [zbI f],zF3,.tok 6 [acc.length]],0,0⟩ =
   some (.exit 0,⟨[vU,vI k,vU,.one (.ptr 0 0 0 0),.one (.ptr 1 0 0 0),vU,.one (.ap 2 0 ((acc ++ zcX b.ops (order.drop i)).map ro)),vU,vU,vU,vU,vU,vU,vU],[.cells 0 3 [zbI f],zF3,.tok 6 [(acc ++ zcX b.ops (order.drop i)).length]],0,0⟩):=by
 intro d
 induction d with
 | zero =>
   intro i acc a0 a2 a5 a7 a8 a9 a13 h1 h2 h3
   have hk : i = order.length:=by omega
   subst hk
   rw [xl zeZ rfl,zgM,yi]
   simp -implicitDefEqProofs only [go_sem,yl,zcX,yG,List.append_nil]
 | succ d ih =>
   intro i acc a0 a2 a5 a7 a8 a9 a13 h1 h2 h3
   have hi : i < order.length:=by omega
   have hdk : order.drop i = order[i] :: order.drop (i + 1):=ye hi
   obtain ⟨r1,r2⟩:=hr _ (yg hi)
   have hlo : order[i].toNat < b.ops.length:=by omega
   have hpk : (b.ops.map ro)[order[i].toNat]? = some (ro (b.ops.getD order[i].toNat op0)):=by simp [hlo]
   have hlim : acc.length + 1 ≤ LIM:=by unfold LIM; omega
   have hbk : (f.blocks.map rb)[k]? = some (rb b):=by simp [hb]
   have e : acc ++ zcX b.ops (order[i] :: order.drop (i + 1)) = (acc ++ [b.ops.getD order[i].toNat op0]) ++ zcX b.ops (order.drop (i + 1)):=by simp only [zcX,yC,List.append_assoc,List.singleton_append]
   have e2 : acc.map ro ++ [ro (b.ops.getD order[i].toNat op0)] = (acc ++ [b.ops.getD order[i].toNat op0]).map ro:=by simp
   have:=ih (i + 1) (acc ++ [b.ops.getD order[i].toNat op0]) vU vU vU vU vU vU vU (by omega) (by omega) (by simp; omega)
   rw [xl zeZ rfl,zgM,hdk,e]
   rw [← e2] at this
   simp -implicitDefEqProofs only [go_sem,rb,ro] at this hpk hbk
   simp -implicitDefEqProofs only [go_sem,ilt hi,zH hi,ri,rb,ro,hpk,hbk,r1,hlim,zd hi hol,this]
end
theorem zio (f : PFunc) (hf : okF f) (k : Int) (order : List Int) (hol : order.length ≤ 4294967296) : call T 17 [zgP f,vI k,vIs order] [] = some (.tup [zgP (zA4 f k order),vI (zAJ f k order)],[]):=by
 rw [ze (fn:=zgj) rfl]
 have h1:=zlg f hf k order hol
 unfold zA4 zAJ
 by_cases c : zhe f k order = true
 ·rw [c] at h1
  rw [if_pos c,if_pos c]
  have c':=c
  unfold zhe at c'
  simp only [yE] at c'
  obtain ⟨c1,c2⟩:=c'
  obtain ⟨k0,k1,hR⟩:=zfI.1 c1
  obtain ⟨n,rfl⟩:=Int.eq_ofNat_of_zero_le k0
  have hn : n < f.blocks.length:=by omega
  simp only [yy] at c2
  obtain ⟨b,hb⟩ : ∃ b,f.blocks[n]? = some b:=⟨_,yq hn⟩
  rw [hb] at c2
  have hl:=(zpk (hR.oneDef (ym hb))).1 c2
  have h:=fun a0 a2 a5 a7 a8 a9 a13 => zz1 f hf n b hb order hl.range hol order.length 0 [] a0 a2 a5 a7 a8 a9 a13 (by omega) (by omega) rfl
  have hc:=zp5 f.blocks (by intro e; rw [e] at hn; simp at hn) (by have:=hf.blocks; omega)
  have hcb : (f.blocks.map zw)[n]? = some (zw b):=by simp [hb]
  have hfz:=zwT (zfi b order) 2 0 f.blocks n
  simp only [zfi] at hfz
  have hput : zh4 f n order = ⟨f.params,f.ret,f.blocks.set n (zfi b order)⟩:=ziN hb order
  have hn' : ((n : Int) < (f.blocks.length : Int)) = True:=by simp; omega
  simp only [yz,yG,List.nil_append,yv,List.length_nil] at h
  have htk : ((f.blocks.map zw).set n [.f (.sl (b.phis.map rp)),.ap 2 0 ((zcX b.ops order).map ro),.f (ei b.kind),.f (ei b.arg),.f (eI b.to)]).take f.blocks.length = (f.blocks.map zw).set n [.f (.sl (b.phis.map rp)),.ap 2 0 ((zcX b.ops order).map ro),.f (ei b.kind),.f (ei b.arg),.f (eI b.to)]:=List.take_of_length_le (by simp)
  simp -implicitDefEqProofs only [go_sem] at h1 h hc hcb hfz htk
  rw [yy,hput]
  simp -implicitDefEqProofs only [go_sem,zgj,h1,h,hc,hcb,hn',hfz,htk,zfi]
 ·have c' : zhe f k order = false:=by simpa using c
  rw [c'] at h1
  rw [if_neg c,if_neg c]
  simp -implicitDefEqProofs only [go_sem] at h1
  simp -implicitDefEqProofs only [go_sem,zgj,h1,yG]
end AC
namespace AC
open Go Go.A Go.A.Lex
noncomputable instance : DecidableEq POp:=fun _ _ => Classical.propDecidable _
noncomputable instance : DecidableEq PPhi:=fun _ _ => Classical.propDecidable _
noncomputable instance : DecidableEq PBlock:=fun _ _ => Classical.propDecidable _
noncomputable instance : DecidableEq PFunc:=fun _ _ => Classical.propDecidable _
section
variable (l m : List Int) (hm : l.length = m.length) (hl : l.length ≤ 4294967296)
include hm hl
theorem zxg : ∀ (d k : Nat) (a2 a4 a5 a6 : V),l.length - k = d → k ≤ l.length →
  exec T zL ⟨[vIs l,vIs m,a2,vI k,a4,a5,a6],[],0,0⟩ = some (if l.drop k = m.drop k then (.exit 0,⟨[vU,vU,vU,vU,vU,vU,vU],[],0,0⟩) else (.ret,⟨[vU,vU,vB false,vU,vU,vU,vU],[],0,0⟩)):=by
 intro d
 induction d with
 | zero =>
   intro k a2 a4 a5 a6 h1 h2
   have hk : k = l.length:=by omega
   subst hk
   rw [xl zL rfl,zan,yi,hm,yi,← hm]
   simp -implicitDefEqProofs only [go_sem,yl,yc]
 | succ d ih =>
   intro k a2 a4 a5 a6 h1 h2
   have hk : k < l.length:=by omega
   have hk' : k < m.length:=by omega
   have:=ih (k + 1) vU vU vU vU (by omega) (by omega)
   rw [xl zL rfl,zan]
   simp only [ye hk,ye hk',List.cons.injEq]
   simp -implicitDefEqProofs only [go_sem] at this
   by_cases c : l[k] = m[k]
   ·simp -implicitDefEqProofs only [go_sem,ilt hk,zH hk,zH hk',ri,yc,zd hk hl,this,c]
   ·simp -implicitDefEqProofs only [go_sem,ilt hk,zH hk,zH hk',ri,yc,c,false_and]
end
theorem zqU (a b : POp) (hl : a.args.length ≤ 4294967296) : call T 63 [vOp a,vOp b] [] = some (vB (decide (a = b)),[]):=by
 rw [ze (fn:=zF) rfl]
 obtain ⟨k,bi,la,ds,ar,im⟩:=a
 obtain ⟨k',bi',la',ds',ar',im'⟩:=b
 have h:=zc8 ar ar' hl
 simp -implicitDefEqProofs only [go_sem] at h
 by_cases c1 : k = k'
 case neg => simp -implicitDefEqProofs only [go_sem,zF,c1,POp.mk.injEq,false_and]
 by_cases c2 : bi = bi'
 case neg => simp -implicitDefEqProofs only [go_sem,zF,c1,c2,POp.mk.injEq,false_and,and_false]
 by_cases c3 : la = la'
 case neg => simp -implicitDefEqProofs only [go_sem,zF,c1,c2,c3,POp.mk.injEq,false_and,and_false]
 by_cases c4 : ds = ds'
 case neg => simp -implicitDefEqProofs only [go_sem,zF,c1,c2,c3,c4,POp.mk.injEq,false_and,and_false]
 by_cases c5 : im = im'
 case neg => simp -implicitDefEqProofs only [go_sem,zF,c1,c2,c3,c4,c5,POp.mk.injEq,false_and,and_false]
 simp -implicitDefEqProofs only [go_sem,zF,c1,c2,c3,c4,c5,h,POp.mk.injEq]
section
variable (f g : PFunc) (i : Nat) (x y : PBlock) (hx : okB x)
abbrev zdr (f g : PFunc) (x y : PBlock) (o : zb) : zb:=.cells 0 3 [zbI f] :: .cells 0 3 [zbI g] :: .cells 0 5 [zw x] :: .cells 0 5 [zw y] :: o
include hx
theorem zzP (hp : x.phis.length = y.phis.length) : ∀ (d k : Nat),x.phis.length - k = d → k ≤ x.phis.length → ∃ o : zb,∀ (a0 a1 a4 a9 a10 a11 a12 a13 a14 a15 a16 a17 a18 : V),
  exec T zal ⟨[a0,a1,.one (.ptr 0 0 0 0),.one (.ptr 1 0 0 0),a4,vI i,.one (.ptr 2 0 0 0),.one (.ptr 3 0 0 0),vI k,a9,a10,a11,a12,a13,a14,a15,a16,a17,a18],zdr f g x y [],0,0⟩ =
   some (if x.phis.drop k = y.phis.drop k then (.exit 2,⟨[vU,vU,.one (.ptr 0 0 0 0),.one (.ptr 1 0 0 0),vU,vI i,.one (.ptr 2 0 0 0),.one (.ptr 3 0 0 0),vU,vU,vU,vU,vU,vU,vU,vU,vU,vU,vU],zdr f g x y [],0,0⟩)
    else (.ret,⟨[vU,vU,vU,vU,vB false,vU,vU,vU,vU,vU,vU,vU,vU,vU,vU,vU,vU,vU,vU],zdr f g x y o,0,0⟩)):=by
 intro d
 induction d with
 | zero =>
   intro k h1 h2
   have hk : k = x.phis.length:=by omega
   subst hk
   refine ⟨[],fun a0 a1 a4 a9 a10 a11 a12 a13 a14 a15 a16 a17 a18 => ?_⟩
   rw [xl zal rfl,zbj,yi,hp,yi,← hp]
   simp -implicitDefEqProofs only [go_sem,yl,yc]
 | succ d ih =>
   intro k h1 h2
   have hk : k < x.phis.length:=by omega
   have hk' : k < y.phis.length:=by omega
   have hl:=hx.phi _ (yg hk)
   have i1:=zc8 x.phis[k].src y.phis[k].src hl.1
   have i2:=zc8 x.phis[k].args y.phis[k].args hl.2
   simp -implicitDefEqProofs only [go_sem] at i1 i2
   simp only [ye hk,ye hk',List.cons.injEq]
   generalize hX : x.phis[k] = X at *
   generalize hY : y.phis[k] = Y at *
   have gx : (x.phis.map rp)[k]? = some (rp X):=by rw [zH hk,hX]
   have gy : (y.phis.map rp)[k]? = some (rp Y):=by rw [zH hk',hY]
   obtain ⟨xb,xd,xs,xa⟩:=X
   obtain ⟨yb,yd,ys,ya⟩:=Y
   by_cases c : PPhi.mk xb xd xs xa = PPhi.mk yb yd ys ya
   ·obtain ⟨o,ho⟩:=ih (k + 1) (by omega) (by omega)
    refine ⟨o,fun a0 a1 a4 a9 a10 a11 a12 a13 a14 a15 a16 a17 a18 => ?_⟩
    have:=ho vU vU vU vU vU vU vU vU vU vU vU vU vU
    rw [xl zal rfl,zbj]
    have c':=c
    rw [PPhi.mk.injEq] at c'
    obtain ⟨e1,e2,e3,e4⟩:=c'
    subst e1 e2 e3 e4
    simp -implicitDefEqProofs only [go_sem,rp] at this gx gy i1 i2
    simp -implicitDefEqProofs only [go_sem,ilt hk,gx,gy,rp,i1,i2,yc,zd hk hx.phis,this]
   ·refine ⟨[.cells 0 4 [ztZ ⟨xb,xd,xs,xa⟩],.cells 0 4 [ztZ ⟨yb,yd,ys,ya⟩]],fun a0 a1 a4 a9 a10 a11 a12 a13 a14 a15 a16 a17 a18 => ?_⟩
    rw [xl zal rfl,zbj]
    simp -implicitDefEqProofs only [go_sem,rp] at gx gy i1 i2
    simp only [eq_false c,false_and,if_false]
    by_cases c1 : xb = yb
    case neg => simp -implicitDefEqProofs only [go_sem,ilt hk,gx,gy,rp,yc,c1]
    by_cases c2 : xd = yd
    case neg => simp -implicitDefEqProofs only [go_sem,ilt hk,gx,gy,rp,yc,c1,c2]
    by_cases c3 : xs = ys
    case neg => simp -implicitDefEqProofs only [go_sem,ilt hk,gx,gy,rp,yc,c1,c2,i1,c3]
    subst c3
    simp -implicitDefEqProofs only [go_sem] at i1
    by_cases c4 : xa = ya
    case neg => simp -implicitDefEqProofs only [go_sem,ilt hk,gx,gy,rp,yc,c1,c2,i1,i2,c4]
    exact absurd (by rw [c1,c2,c4]) c
theorem zzy (hp : x.ops.length = y.ops.length) : ∀ (d k : Nat) (a0 a1 a4 a8 a9 a10 a12 a13 a14 a15 a16 a17 a18 : V),x.ops.length - k = d → k ≤ x.ops.length →
  exec T zbc ⟨[a0,a1,.one (.ptr 0 0 0 0),.one (.ptr 1 0 0 0),a4,vI i,.one (.ptr 2 0 0 0),.one (.ptr 3 0 0 0),a8,a9,a10,vI k,a12,a13,a14,a15,a16,a17,a18],zdr f g x y [],0,0⟩ =
   some (if x.ops.drop k = y.ops.drop k then (.exit 4,⟨[vU,vU,.one (.ptr 0 0 0 0),.one (.ptr 1 0 0 0),vU,vI i,vU,vU,vU,vU,vU,vU,vU,vU,vU,vU,vU,vU,vU],zdr f g x y [],0,0⟩)
    else (.ret,⟨[vU,vU,vU,vU,vB false,vU,vU,vU,vU,vU,vU,vU,vU,vU,vU,vU,vU,vU,vU],zdr f g x y [],0,0⟩)):=by
 intro d
 induction d with
 | zero =>
   intro k a0 a1 a4 a8 a9 a10 a12 a13 a14 a15 a16 a17 a18 h1 h2
   have hk : k = x.ops.length:=by omega
   subst hk
   rw [xl zbc rfl,zcs,yi,hp,yi,← hp]
   simp -implicitDefEqProofs only [go_sem,yl,yc]
 | succ d ih =>
   intro k a0 a1 a4 a8 a9 a10 a12 a13 a14 a15 a16 a17 a18 h1 h2
   have hk : k < x.ops.length:=by omega
   have hk' : k < y.ops.length:=by omega
   have i1:=zqU x.ops[k] y.ops[k] (hx.op _ (yg hk)).2
   have:=ih (k + 1) vU vU vU vU vU vU vU vU vU vU vU vU vU (by omega) (by omega)
   rw [xl zbc rfl,zcs]
   simp -implicitDefEqProofs only [go_sem] at this i1
   simp only [ye hk,ye hk',List.cons.injEq]
   by_cases c : x.ops[k] = y.ops[k]
   ·simp -implicitDefEqProofs only [c] at i1
    simp -implicitDefEqProofs only [go_sem,ilt hk,zH hk,zH hk',ro,i1,yc,zd hk hx.ops,this,c]
   ·simp -implicitDefEqProofs only [go_sem,ilt hk,zH hk,zH hk',ro,i1,yc,c,false_and]
end
section
variable (f g : PFunc) (hf : okF f)
include hf
theorem zze (hp : f.blocks.length = g.blocks.length) : ∀ (d k : Nat),f.blocks.length - k = d → k ≤ f.blocks.length → ∃ o : zb,∀ (a0 a1 a4 a6 a7 a8 a9 a10 a11 a12 a13 a14 a15 a16 a17 a18 : V),
  exec T zh ⟨[a0,a1,.one (.ptr 0 0 0 0),.one (.ptr 1 0 0 0),a4,vI k,a6,a7,a8,a9,a10,a11,a12,a13,a14,a15,a16,a17,a18],[.cells 0 3 [zbI f],.cells 0 3 [zbI g]],0,0⟩ =
   some (if f.blocks.drop k = g.blocks.drop k then (.exit 0,⟨[vU,vU,vU,vU,vU,vU,vU,vU,vU,vU,vU,vU,vU,vU,vU,vU,vU,vU,vU],[.cells 0 3 [zbI f],.cells 0 3 [zbI g]],0,0⟩)
    else (.ret,⟨[vU,vU,vU,vU,vB false,vU,vU,vU,vU,vU,vU,vU,vU,vU,vU,vU,vU,vU,vU],.cells 0 3 [zbI f] :: .cells 0 3 [zbI g] :: o,0,0⟩)):=by
 intro d
 induction d with
 | zero =>
   intro k h1 h2
   have hk : k = f.blocks.length:=by omega
   subst hk
   refine ⟨[],fun a0 a1 a4 a6 a7 a8 a9 a10 a11 a12 a13 a14 a15 a16 a17 a18 => ?_⟩
   rw [xl zh rfl,zo,yi,hp,yi,← hp]
   simp -implicitDefEqProofs only [go_sem,yl,yc]
 | succ d ih =>
   intro k h1 h2
   have hk : k < f.blocks.length:=by omega
   have hk' : k < g.blocks.length:=by omega
   have hx:=hf.block _ (yg hk)
   simp only [ye hk,ye hk',List.cons.injEq]
   generalize hX : f.blocks[k] = x at *
   generalize hY : g.blocks[k] = y at *
   have gx : (f.blocks.map rb)[k]? = some (rb x):=by rw [zH hk,hX]
   have gy : (g.blocks.map rb)[k]? = some (rb y):=by rw [zH hk',hY]
   have i1:=zc8 x.to y.to hx.to
   simp -implicitDefEqProofs only [go_sem,rb] at i1 gx gy
   have step : ∀ o',(∀ (a0 a1 a4 a6 a7 a8 a9 a10 a11 a12 a13 a14 a15 a16 a17 a18 : V),¬ x = y → exec T zh ⟨[a0,a1,.one (.ptr 0 0 0 0),.one (.ptr 1 0 0 0),a4,vI k,a6,a7,a8,a9,a10,a11,a12,a13,a14,a15,a16,a17,a18],[.cells 0 3 [zbI f],.cells 0 3 [zbI g]],0,0⟩ = some (.ret,⟨[vU,vU,vU,vU,vB false,vU,vU,vU,vU,vU,vU,vU,vU,vU,vU,vU,vU,vU,vU],zdr f g x y o',0,0⟩)) → ¬ x = y → ∃ o : zb,∀ (a0 a1 a4 a6 a7 a8 a9 a10 a11 a12 a13 a14 a15 a16 a17 a18 : V),
    exec T zh ⟨[a0,a1,.one (.ptr 0 0 0 0),.one (.ptr 1 0 0 0),a4,vI k,a6,a7,a8,a9,a10,a11,a12,a13,a14,a15,a16,a17,a18],[.cells 0 3 [zbI f],.cells 0 3 [zbI g]],0,0⟩ =
    some (if x = y ∧ f.blocks.drop (k + 1) = g.blocks.drop (k + 1) then (.exit 0,⟨[vU,vU,vU,vU,vU,vU,vU,vU,vU,vU,vU,vU,vU,vU,vU,vU,vU,vU,vU],[.cells 0 3 [zbI f],.cells 0 3 [zbI g]],0,0⟩)
     else (.ret,⟨[vU,vU,vU,vU,vB false,vU,vU,vU,vU,vU,vU,vU,vU,vU,vU,vU,vU,vU,vU],.cells 0 3 [zbI f] :: .cells 0 3 [zbI g] :: o,0,0⟩)):=fun o' h hn =>
    ⟨.cells 0 5 [zw x] :: .cells 0 5 [zw y] :: o',fun a0 a1 a4 a6 a7 a8 a9 a10 a11 a12 a13 a14 a15 a16 a17 a18 => by rw [h a0 a1 a4 a6 a7 a8 a9 a10 a11 a12 a13 a14 a15 a16 a17 a18 hn,if_neg (fun e => hn e.1)]⟩
   obtain ⟨xp,xo,xk,xr,xt⟩:=x
   obtain ⟨yp,yo,yk,yr,yt⟩:=y
   by_cases c1 : xp.length = yp.length
   case neg =>
    have z : ¬ (xp.length : Int) = yp.length:=by omega
    refine step [] (fun a0 a1 a4 a6 a7 a8 a9 a10 a11 a12 a13 a14 a15 a16 a17 a18 _ => ?_) (fun e => c1 (by injection e with q; rw [q]))
    rw [xl zh rfl,zo]
    simp -implicitDefEqProofs only [go_sem,ilt hk,gx,gy,zdr,yc,z]
   by_cases c2 : xo.length = yo.length
   case neg =>
    have z : ¬ (xo.length : Int) = yo.length:=by omega
    refine step [] (fun a0 a1 a4 a6 a7 a8 a9 a10 a11 a12 a13 a14 a15 a16 a17 a18 _ => ?_) (fun e => c2 (by injection e with _ q; rw [q]))
    rw [xl zh rfl,zo]
    simp -implicitDefEqProofs only [go_sem,ilt hk,gx,gy,zdr,yc,c1,z]
   by_cases c3 : xk = yk
   case neg =>
    refine step [] (fun a0 a1 a4 a6 a7 a8 a9 a10 a11 a12 a13 a14 a15 a16 a17 a18 _ => ?_) (fun e => c3 (by injection e))
    rw [xl zh rfl,zo]
    simp -implicitDefEqProofs only [go_sem,ilt hk,gx,gy,zdr,yc,c1,c2,c3]
   subst c3
   by_cases c4 : xr = yr
   case neg =>
    refine step [] (fun a0 a1 a4 a6 a7 a8 a9 a10 a11 a12 a13 a14 a15 a16 a17 a18 _ => ?_) (fun e => c4 (by injection e))
    rw [xl zh rfl,zo]
    simp -implicitDefEqProofs only [go_sem,ilt hk,gx,gy,zdr,yc,c1,c2,c4]
   subst c4
   by_cases c5 : xt = yt
   case neg =>
    refine step [] (fun a0 a1 a4 a6 a7 a8 a9 a10 a11 a12 a13 a14 a15 a16 a17 a18 _ => ?_) (fun e => c5 (by injection e))
    rw [xl zh rfl,zo]
    simp -implicitDefEqProofs only [go_sem,ilt hk,gx,gy,zdr,yc,c1,c2,i1,c5]
   subst c5
   obtain ⟨o1,h1⟩:=zzP f g k ⟨xp,xo,xk,xr,xt⟩ ⟨yp,yo,xk,xr,xt⟩ hx c1 xp.length 0 (by simp) (by simp)
   have h2:=fun a0 a1 a4 a8 a9 a10 a12 a13 a14 a15 a16 a17 a18 => zzy f g k ⟨xp,xo,xk,xr,xt⟩ ⟨yp,yo,xk,xr,xt⟩ hx c2 xo.length 0 a0 a1 a4 a8 a9 a10 a12 a13 a14 a15 a16 a17 a18 (by simp) (by simp)
   simp only [yz,yv] at h1 h2
   simp -implicitDefEqProofs only [go_sem] at i1
   by_cases c6 : xp = yp
   case neg =>
    refine step o1 (fun a0 a1 a4 a6 a7 a8 a9 a10 a11 a12 a13 a14 a15 a16 a17 a18 _ => ?_) (fun e => c6 (by injection e))
    rw [xl zh rfl,zo]
    simp -implicitDefEqProofs only [go_sem,zdr,c6] at h1
    simp -implicitDefEqProofs only [go_sem,ilt hk,gx,gy,zdr,yc,c1,c2,i1,h1]
   subst c6
   simp -implicitDefEqProofs only [go_sem,zdr] at h1
   by_cases c7 : xo = yo
   case neg =>
    refine step [] (fun a0 a1 a4 a6 a7 a8 a9 a10 a11 a12 a13 a14 a15 a16 a17 a18 _ => ?_) (fun e => c7 (by injection e))
    rw [xl zh rfl,zo]
    simp -implicitDefEqProofs only [go_sem,zdr,c7] at h2
    simp -implicitDefEqProofs only [go_sem,ilt hk,gx,gy,zdr,yc,c2,i1,h1,h2]
   subst c7
   obtain ⟨o,ho⟩:=ih (k + 1) (by omega) (by omega)
   refine ⟨o,fun a0 a1 a4 a6 a7 a8 a9 a10 a11 a12 a13 a14 a15 a16 a17 a18 => ?_⟩
   have:=ho vU vU vU vU vU vU vU vU vU vU vU vU vU vU vU vU
   rw [xl zh rfl,zo]
   simp -implicitDefEqProofs only [go_sem,zdr] at this h2
   simp -implicitDefEqProofs only [go_sem,ilt hk,gx,gy,yc,i1,h1,h2,zd hk hf.blocks,this]
theorem zqk : call T 19 [zgP f,zgP g] [] = some (vB (decide (f = g)),[]):=by
 rw [ze (fn:=zP) rfl]
 obtain ⟨fp,fr,fb⟩:=f
 obtain ⟨gp,gr,gb⟩:=g
 have i1:=zc8 fp gp hf.params
 simp -implicitDefEqProofs only [go_sem] at i1
 by_cases c1 : fr = gr
 case neg => simp -implicitDefEqProofs only [go_sem,zP,PFunc.mk.injEq,c1,false_and,and_false]
 subst c1
 by_cases c2 : fp = gp
 case neg => simp -implicitDefEqProofs only [go_sem,zP,PFunc.mk.injEq,i1,c2,false_and,and_false]
 subst c2
 simp -implicitDefEqProofs only [go_sem] at i1
 by_cases c3 : fb.length = gb.length
 case neg =>
  have z : ¬ (fb.length : Int) = gb.length:=by omega
  have z2 : ¬ fb = gb:=fun e => c3 (by rw [e])
  simp -implicitDefEqProofs only [go_sem,zP,PFunc.mk.injEq,i1,yc,z,z2,and_false]
 obtain ⟨o,h⟩:=zze ⟨fp,fr,fb⟩ ⟨fp,fr,gb⟩ hf c3 fb.length 0 (by simp) (by simp)
 simp only [yz,yv] at h
 by_cases c4 : fb = gb
 ·subst c4
  simp -implicitDefEqProofs only [go_sem] at h
  simp -implicitDefEqProofs only [go_sem,zP,i1,yc,h]
 ·simp -implicitDefEqProofs only [go_sem,c4] at h
  simp -implicitDefEqProofs only [go_sem,zP,PFunc.mk.injEq,i1,c3,yc,c4,h,Nat.not_succ_le_zero,and_false]
end
end AC
namespace AC
open Go Go.A
theorem zsy {α : Type} {p : α → Bool} {a b : List α} (h : a.Perm b) : a.all p = b.all p:=by
 rw [Bool.eq_iff_iff,yF,yF]
 exact ⟨fun k x hx => k x (h.mem_iff.2 hx),fun k x hx => k x (h.mem_iff.1 hx)⟩
theorem zfN (i : Int) : ∀ (l : List POp) (k : Nat),(zb2 i k l).map Use.v = (l.filter fun o => decide (0 < (zY o).1)).map POp.dst
 | [],_ => rfl
 | o :: l,k => by
   rw [zb2,List.filter_cons]
   by_cases c : 0 < (zY o).1
   ·rw [if_pos c,decide_eq_true c,if_pos rfl,yC,yC,zfN i l (k + 1)]
   ·rw [if_neg c,decide_eq_false c,if_neg (by simp),zfN i l (k + 1)]
theorem zqV : ∀ (l l' : List PBlock) (k : Nat),l.length = l'.length → (∀ (j : Nat) (b b' : PBlock),l[j]? = some b → l'[j]? = some b' → b.phis = b'.phis ∧ b.ops.Perm b'.ops) → ((zJ k l).map Use.v).Perm ((zJ k l').map Use.v)
 | [],[],_,_,_ => List.Perm.refl _
 | [],_ :: _,_,h,_ => by simp at h
 | _ :: _,[],_,h,_ => by simp at h
 | b :: l,b' :: l',k,h,hs => by
   obtain ⟨h1,h2⟩:=hs 0 b b' rfl rfl
   have ih:=zqV l l' (k + 1) (by simpa using h) fun j c c' hc hc' => hs (j + 1) c c' (by simpa using hc) (by simpa using hc')
   rw [zJ,zJ,yn,yn,yn,yn,zfN,zfN,h1]
   exact List.Perm.append_left _ (List.Perm.append ((h2.filter _).map _) ih)
theorem zih (p : PPhi) : ∀ (l : List Int) (k : Nat),∀ u ∈ zac p k l,u.at' = 1048576
 | [],_ => by simp [zac]
 | v :: l,k => by
   intro u hu
   rw [zac] at hu
   rcases yB.1 hu with rfl | hu
   ·rfl
   ·exact zih p l (k + 1) u hu
theorem zlV {l : List PPhi} {u : Use} (hu : u ∈ zdn l) : u.at' = 1048576:=by
 unfold zdn at hu
 obtain ⟨p,_,hu⟩:=List.mem_flatMap.1 hu
 exact zih p _ _ u hu
theorem zny {f : PFunc} {i : Int} {b : PBlock} {u : Use} (hu : u ∈ zc3 f i b) : u.at' = 1048576:=by
 unfold zc3 at hu
 split at hu
 ·simp at hu
 ·rw [List.mem_singleton.1 hu]
section
variable {f : PFunc} {k : Nat} {b : PBlock} (hb : f.blocks[k]? = some b) {order : List Int} (hl : LegalP b.ops order)
include hb hl
theorem zvV : zrg (zfi b order) = zrg b:=by
 unfold zrg zfi
 simp only
 rw [zsy (zhH hl)]
 rfl
theorem zvZ : zky (zh4 f k order) = zky f:=by
 unfold zky
 rw [zeT hb,zlB hb order (fun b => b.phis.length + b.ops.length)]
 show b.phis.length + (zcX b.ops order).length = _
 rw [zhl,hl.len]
theorem zpd (p : PBlock → Bool) (hp : p (zfi b order) = p b) : (zh4 f k order).blocks.all p = f.blocks.all p:=by
 rw [znU,znU p f.blocks,zlB hb order p hp]
theorem zcU : (zh4 f k order).params = f.params ∧ (zh4 f k order).ret = f.ret:=by rw [ziN hb]; exact ⟨rfl,rfl⟩
theorem zyB : zn2 (zh4 f k order) = zn2 f:=by
 unfold zn2
 rw [zeT hb,zvZ hb hl,(zcU hb hl).1,(zcU hb hl).2,zpd hb hl zrg (zvV hb hl)]
theorem zpL : za5 (zh4 f k order) = za5 f:=by
 unfold za5
 rw [zeT hb,zlP hb,zpd hb hl (zpM f.blocks.length) rfl]
theorem zt5 : zhg (zh4 f k order) = zhg f:=by
 unfold zhg
 rw [zpL hb hl,zlP hb]
 congr 1
 refine zgG _ _ _ _ _ (zeT hb order) fun j c c' hc hc' => ?_
 rw [zeC hb] at hc
 split at hc
 ·rename_i e
  subst e
  rw [hb] at hc'
  injection hc with hc; injection hc' with hc'
  rw [← hc,← hc']
  exact ⟨rfl,rfl⟩
 ·rw [hc] at hc'
  injection hc' with hc'
  rw [hc']
  exact ⟨rfl,rfl⟩
theorem zt8 (level : Int) : zeE (zh4 f k order) level = zeE f level:=by
 unfold zeE
 rw [(zcU hb hl).1,(zcU hb hl).2,zpd hb hl (zif level)]
 unfold zif zfi
 simp only
 rw [zsy (zhH hl)]
theorem zu0 : ((zO (zh4 f k order)).map Use.v).Perm ((zO f).map Use.v):=by
 unfold zO
 rw [yn,yn,(zcU hb hl).1]
 refine List.Perm.append_left _ (zqV _ _ _ (zeT hb order) fun j c c' hc hc' => ?_)
 rw [zeC hb] at hc
 split at hc
 ·rename_i e
  subst e
  rw [hb] at hc'
  injection hc with hc; injection hc' with hc'
  rw [← hc,← hc']
  exact ⟨rfl,zhH hl⟩
 ·rw [hc] at hc'
  injection hc' with hc'
  rw [hc']
  exact ⟨rfl,List.Perm.refl _⟩
theorem zxo {u : Use} (hu : u ∈ zdd (zh4 f k order)) : (u ∈ zdd f ∧ (u.block = k → u.at' = 1048576)) ∨ ∃ (i : Nat) (hi : i < order.length) (o : POp),b.ops[order[i].toNat]? = some o ∧ u.block = k ∧ u.at' = i ∧ u ∈ zqs o k i ∧ (⟨u.v,u.shape,u.block,order[i]⟩ : Use) ∈ zdd f:=by
 unfold zdd at hu ⊢
 obtain ⟨j,c,hc,hu⟩:=(zcv _ u _ 0).1 hu
 rw [yh] at hu
 have ef : ∀ x : PBlock,zc3 (zh4 f k order) (j : Int) x = zc3 f (j : Int) x:=fun x => by unfold zc3 ziI; rw [(zcU hb hl).2]
 rw [zeC hb] at hc
 split at hc
 ·rename_i e
  subst e
  injection hc with hc
  subst hc
  unfold zfu at hu
  rw [ef] at hu
  rcases yf.1 hu with hu | hu
  ·exact .inl ⟨(zcv _ u _ 0).2 ⟨j,b,hb,by rw [yh]; exact yf.2 (.inl hu)⟩,fun _ => zlV hu⟩
  rcases yf.1 hu with hu | hu
  ·right
   obtain ⟨i,o,hi,hu⟩:=(zeu _ u _ 0).1 hu
   rw [yh] at hu
   obtain ⟨h1,h2,h3,h4⟩:=zx7 hl hi
   obtain ⟨q1,q2,_⟩:=zdC _ _ hu
   refine ⟨i,h1,o,h3,q1,q2,hu,?_⟩
   refine (zcv _ _ _ 0).2 ⟨j,b,hb,?_⟩
   rw [yh]
   refine yf.2 (.inr (yf.2 (.inl ((zeu _ _ _ 0).2 ⟨order[i].toNat,o,h3,?_⟩))))
   rw [yh,h4]
   exact zmS _ _ hu
  ·exact .inl ⟨(zcv _ u _ 0).2 ⟨j,b,hb,by rw [yh]; exact yf.2 (.inr (yf.2 (.inr hu)))⟩,fun _ => zny hu⟩
 ·rename_i hjk
  left
  unfold zfu at hu
  rw [ef] at hu
  refine ⟨(zcv _ u _ 0).2 ⟨j,c,hc,by rw [yh]; exact hu⟩,fun hk => ?_⟩
  rcases yf.1 hu with hu | hu
  ·exact zlV hu
  rcases yf.1 hu with hu | hu
  ·obtain ⟨i,o,hi,hu⟩:=(zeu _ u _ 0).1 hu
   obtain ⟨q1,_,_⟩:=zdC _ _ hu
   omega
  ·exact zny hu
theorem zsP {d : Use} (hd : d ∈ zO f) : (d ∈ zO (zh4 f k order) ∧ (d.block = k → d.at' = -1)) ∨ ∃ (i : Nat) (hi : i < order.length) (o : POp),b.ops[order[i].toNat]? = some o ∧ 0 < (zY o).1 ∧ d = ⟨o.dst,zY o,k,order[i]⟩ ∧ (⟨o.dst,zY o,k,i⟩ : Use) ∈ zO (zh4 f k order):=by
 unfold zO at hd ⊢
 rw [(zcU hb hl).1]
 rcases yf.1 hd with hd | hd
 ·obtain ⟨e1,e2⟩:=zeo _ _ d hd
  exact .inl ⟨yf.2 (.inl hd),fun e => by omega⟩
 ·obtain ⟨j,c,hc,hd⟩:=(zb5 d _ 0).1 hd
  rw [yh] at hd
  by_cases e : j = k
  ·subst e
   rw [hb] at hc
   injection hc with hc
   subst hc
   rcases hd with hd | hd
   ·left
    refine ⟨yf.2 (.inr ((zb5 d _ 0).2 ⟨j,zfi b order,by rw [zeC hb,if_pos rfl],.inl (by rw [yh]; exact hd)⟩)),fun _ => ?_⟩
    unfold zeA at hd
    obtain ⟨p,_,rfl⟩:=yD.1 hd
    rfl
   ·right
    obtain ⟨a,o,ha,hg,rfl⟩:=(zfH _ d _ 0).1 hd
    have hal:=(List.getElem?_eq_some_iff.1 ha).1
    obtain ⟨i,hi,ei⟩:=List.mem_iff_getElem.1 (hl.all (x:=(a : Int)) (by omega) (by omega))
    have hoa : b.ops[order[i].toNat]? = some o:=by rw [ei,yy]; exact ha
    refine ⟨i,hi,o,hoa,hg,by rw [ei,yh],?_⟩
    refine yf.2 (.inr ((zb5 _ _ 0).2 ⟨j,zfi b order,by rw [zeC hb,if_pos rfl],.inr ?_⟩))
    rw [yh]
    refine (zfH _ _ _ 0).2 ⟨i,o,?_,hg,by rw [yh]⟩
    show (zcX b.ops order)[i]? = _
    unfold zcX
    rw [List.getElem?_map,yq hi,Option.map_some,yj,hoa]
    rfl
  ·left
   refine ⟨yf.2 (.inr ((zb5 d _ 0).2 ⟨j,c,by rw [zeC hb,if_neg e]; exact hc,by rw [yh]; exact hd⟩)),fun hk => ?_⟩
   have : d.block = (j : Int):=by
    rcases hd with hd | hd
    ·unfold zeA at hd
     obtain ⟨p,_,rfl⟩:=yD.1 hd
     rfl
    ·obtain ⟨a,o,_,_,rfl⟩:=(zfH _ d _ 0).1 hd
     rfl
   omega
theorem zws {level : Int} (h : RightP f level) : RightP (zh4 f k order) level:=by
 have hbm:=ym hb
 have hvals:=zu0 hb hl
 refine ⟨h.lvl,by rw [zyB hb hl]; exact h.may,by rw [zt5 hb hl]; exact h.shape,by rw [zt8 hb hl]; exact h.typed,fun d hd => ?_,hvals.nodup_iff.2 h.once,fun u hu => ?_⟩
 ·obtain ⟨d',hd',e⟩:=yD.1 (hvals.mem_iff.1 (yw hd))
  have:=h.values d' hd'
  rwa [e] at this
 ·rw [zlP hb]
  unfold zf1 at hu
  obtain ⟨u0,hu0,rfl⟩:=yD.1 hu
  have hsize:=(h.size hbm).1
  have hol : order.length = b.ops.length:=hl.len
  rcases zxo hb hl hu0 with ⟨hu1,hua⟩ | ⟨i,hi,o,ho,ub,ua,huo,hu1⟩
  ·
   obtain ⟨d,hd,e1,e2,hp⟩:=h.uses (zey u0) (yw hu1)
   rcases zsP hb hl hd with ⟨hd',_⟩ | ⟨i,hi,o,ho,hg,rfl,hd'⟩
   ·exact ⟨d,hd',e1,e2,hp⟩
   ·refine ⟨_,hd',e1,e2,?_⟩
    rcases hp with hp | ⟨hp1,hp2⟩ | hp
    ·exact .inl hp
    ·refine .inr (.inl ⟨hp1,?_⟩)
     have hp1' : (k : Int) = u0.block:=hp1
     have:=hua hp1'.symm
     unfold zey
     rw [if_pos this]
     show (i : Int) < 1000
     omega
    ·exact .inr (.inr hp)
  ·
   have hr:=hl.range _ (yg hi)
   have hlt : order[i] < 1000:=by omega
   have hat : zey (⟨u0.v,u0.shape,u0.block,order[i]⟩ : Use) = ⟨u0.v,u0.shape,u0.block,order[i]⟩:=by
    unfold zey
    simp only
    rw [if_neg (by omega)]
   have hat0 : zey u0 = ⟨u0.v,u0.shape,u0.block,(i : Int)⟩:=by
    unfold zey
    rw [ua,if_neg (by omega)]
   obtain ⟨d,hd,e1,e2,hp⟩:=h.uses _ (yw hu1)
   rw [hat] at e1 e2 hp
   rw [hat0]
   rcases zsP hb hl hd with ⟨hd',hk⟩ | ⟨i',hi',o',ho',hg,rfl,hd'⟩
   ·refine ⟨d,hd',e1,e2,?_⟩
    rcases hp with hp | ⟨hp1,hp2⟩ | hp
    ·exact .inl hp
    ·have hp1' : d.block = u0.block:=hp1
     exact .inr (.inl ⟨hp1,by rw [hk (by omega)]; show (-1 : Int) < (i : Int); omega⟩)
    ·exact .inr (.inr hp)
   ·refine ⟨_,hd',e1,e2,?_⟩
    rcases hp with hp | ⟨hp1,hp2⟩ | hp
    ·exact .inl hp
    ·refine .inr (.inl ⟨hp1,?_⟩)
     show (i' : Int) < (i : Int)
     have hp2' : order[i'] < order[i]:=hp2
     obtain ⟨_,_,j,hj,ev⟩:=zdC _ _ huo
     have hom : zgE o = true:=zfB h.typed hbm (ym ho)
     have hom' : zgE o' = true:=zfB h.typed hbm (ym ho')
     have e1' : o'.dst = u0.v:=e1
     rw [yh] at hj
     have hjl : j < o.args.length:=Nat.lt_of_lt_of_le hj (zob o)
     have hon : onB b.ops order[i].toNat order[i'].toNat = true:=by
      unfold onB
      rw [yj,yj,ho,ho']
      simp only [Option.getD_some,yE,Bool.or_eq_true,decide_eq_true_eq]
      have hr':=hl.range _ (yg hi')
      refine ⟨by omega,.inl ⟨?_,?_⟩⟩
      ·have:=zmp hg
       have:=zg2.1 this
       omega
      ·rw [e1',ev,yj,yq hjl]
       exact yg hjl
     rcases Nat.lt_trichotomy i' i with c | rfl | c
     ·omega
     ·omega
     ·have:=hl.ahead i i' hi hi' c
      rw [hon] at this
      cases this
    ·exact .inr (.inr hp)
end
end AC

/- A part of the proof of SchedBack. Conditions: none. -/
import Derived.Test.YtmkncmffaaninaaGreatBAU
import Derived.Test.YtmkncmffaaninaaGreatBAV
import Derived.Test.YtmkncmffaaninaaGreatBAS
set_option linter.unusedVariables false
set_option linter.unusedSimpArgs false
set_option linter.unusedSectionVars false
open Nat renaming add_le_add_iff_right → ya
open List renaming drop_eq_getElem_cons → yb,drop_length → yc,getElem_mem → yf,drop_zero → yi,map_cons → yj,length_cons → yk,length → yn
open Int renaming lt_irrefl → yd,natCast_zero → ye
open Option renaming isNone_none → yg,isNone_some → yh
open Bool renaming not_not → yl,true_and → ym
namespace AC
open Go Go.A Go.A.Lex
def ofS (level : Int) (o : POp) : Bool :=
 !(decide (level < 2) && (decide (1 < o.lanes) || decide (20 < o.kind))) && (!(decide (level < 1) && decide (17 < o.kind)) && zgE o)
section
variable (f : PFunc) (hf : okF f) (level : Int) (x y z dd : C) (σ : zb) (hck : σ[1]? = some (zur f level x y z dd)) (hσ : Ok σ)
include hck hσ
theorem zzf (o : POp) (ho : zzU o) : call T 203 [.one (.ptr 1 0 0 0),vOp o] σ = some (vB (ofS level o),σ):=by
 rw [ze (fn:=zR) rfl]
 have hm:=zf4 o ho.1 ho.2
 have hlow:=zdw hck
 simp -implicitDefEqProofs only [go_sem] at hm
 by_cases c1 : level < 2
 ·by_cases c2 : 1 < o.lanes
  ·simp -implicitDefEqProofs only [go_sem,zR,hlow,c1,c2,ofS,Ok.at hσ]
  ·by_cases c3 : 20 < o.kind
   ·simp -implicitDefEqProofs only [go_sem,zR,hlow,c1,c2,c3,ofS,Ok.at hσ]
   ·by_cases c4 : level < 1
    ·by_cases c5 : 17 < o.kind
     ·simp -implicitDefEqProofs only [go_sem,zR,hlow,c1,c2,c3,c4,c5,ofS,Ok.at hσ]
     ·simp -implicitDefEqProofs only [go_sem,zR,hlow,c1,c2,c3,c4,c5,ofS,Ok.at hσ,hm]
    ·simp -implicitDefEqProofs only [go_sem,zR,hlow,c1,c2,c3,c4,ofS,Ok.at hσ,hm]
 ·have c4 : ¬ level < 1:=by omega
  simp -implicitDefEqProofs only [go_sem,zR,hlow,c1,c4,ofS,Ok.at hσ,hm]
end
def zif (level : Int) (b : PBlock) : Bool:=b.phis.all (fun p => zjg p.bits) && b.ops.all (ofS level)
def zcl (level : Int) : List PBlock → Option PBlock
 | [] => none
 | b :: r => if zif level b = true then zcl level r else some b
def zeE (f : PFunc) (level : Int) : Bool:=zjg f.ret && (f.params.all zjg && f.blocks.all (zif level))
theorem zgx (level : Int) : ∀ l : List PBlock,(zcl level l).isNone = l.all (zif level)
 | [] => rfl
 | b :: r => by
   simp only [zcl,List.all_cons]
   cases h : zif level b
   ·simp
   ·simpa using zgx level r
theorem zqm (b : Int) (σ : zb) : call T 198 [vI b] σ = some (vB (!zjg b),σ):=by
 rw [ze (fn:=zbV) rfl]
 simp -implicitDefEqProofs only [go_sem,zbV]
theorem zqb (p : PPhi) (σ : zb) (hσ : Ok σ) : call T 200 [zBf p] σ = some (vB (!zjg p.bits),σ):=by
 rw [ze (fn:=zbN) rfl]
 simp -implicitDefEqProofs only [go_sem,zbN,Ok.at hσ]
section
variable (f : PFunc) (hf : okF f) (level : Int) (x y z dd : C) (σ : zb) (hck : σ[1]? = some (zur f level x y z dd)) (hσ : Ok σ)
include hck hσ
theorem zpP (o : POp) (ho : zzU o) (r : zb) (hr : Obs.lt (σ.length + 1 + r.length) r = true) : call T 202 [vOp o,.one (.ptr σ.length 0 0 0)] (σ ++ .cells 0 1 [[.ptr 1 0 0 0]] :: r) = some (vB (!ofS level o),σ ++ .cells 0 1 [[.ptr 1 0 0 0]] :: r):=by
 rw [ze (fn:=zbU) rfl]
 have hσ1 : Ok (σ ++ .cells 0 1 [[.ptr 1 0 0 0]] :: r):=Ok.app hσ (by
  have h1:=zmt (show σ.length + 1 + r.length ≤ σ.length + (r.length + 1) by omega) r hr
  have h2:=zeW hck (r.length + 1)
  simp -implicitDefEqProofs only [go_sem,h1,h2])
 have hσ2 : Ok (σ ++ .cells 0 1 [[.ptr 1 0 0 0]] :: r ++ [.cells 0 6 [cOp o]]):=Ok.app hσ1 (by simp -implicitDefEqProofs only [go_sem])
 have hc:=zzf f level x y z dd (σ ++ .cells 0 1 [[.ptr 1 0 0 0]] :: r ++ [.cells 0 6 [cOp o]]) (by rw [List.append_assoc]; exact zdw hck _) hσ2 o ho
 generalize hτ : σ ++ .cells 0 1 [[.ptr 1 0 0 0]] :: r = τ at *
 have hg : τ[σ.length]? = some (.cells 0 1 [[.ptr 1 0 0 0]]):=by rw [← hτ]; simp
 have hg2:=zdw hg
 simp -implicitDefEqProofs only [go_sem] at hc
 simp -implicitDefEqProofs only [go_sem,zbU,hg2,hc,Ok.at hσ1]
theorem zxM (hf : okF f) : ∀ (d k : Nat) (a0 a2 a3 a4 a5 a9 a10 : V),f.blocks.length - k = d → k ≤ f.blocks.length →
  exec T zaZ ⟨[a0,.one (.ptr σ.length 0 0 0),a2,a3,a4,a5,vL (f.blocks.map rb),vI f.blocks.length,vI k,a9,a10],σ ++ [.cells 0 1 [[.ptr 1 0 0 0]]],σ.length,σ.length⟩ =
   some (match zcl level (f.blocks.drop k) with
    | none => (.exit 0,⟨[vU,vU,vU,vU,vU,vU,vU,vU,vU,vU,vU],σ ++ [.cells 0 1 [[.ptr 1 0 0 0]]],σ.length,σ.length⟩)
    | some b => (.ret,⟨[vU,vU,vI 6,vU,vU,vU,vU,vU,vU,vU,vU],σ ++ [.cells 0 1 [[.ptr 1 0 0 0]],.cells 0 5 [zw b]],σ.length,σ.length⟩)):=by
 intro d
 induction d with
 | zero =>
   intro k a0 a2 a3 a4 a5 a9 a10 h1 h2
   have hk : k = f.blocks.length:=by omega
   subst hk
   rw [xl zaZ rfl,zcb]
   simp -implicitDefEqProofs only [go_sem,yd,yc,zcl]
 | succ d ih =>
   intro k a0 a2 a3 a4 a5 a9 a10 h1 h2
   have hk : k < f.blocks.length:=by omega
   have hd : f.blocks.drop k = f.blocks[k] :: f.blocks.drop (k + 1):=yb hk
   have hb:=hf.block _ (yf hk)
   have hlow:=zdw hck
   have hσ1 : Ok (σ ++ [.cells 0 1 [[.ptr 1 0 0 0]],.cells 0 5 [zw f.blocks[k]]]):=Ok.app hσ (by
    have h2:=zeW hck 2
    simp -implicitDefEqProofs only [go_sem,h2])
   have hp:=zgW f.blocks[k].phis (fun p => !zjg p.bits) 200 [] [] (σ ++ [.cells 0 1 [[.ptr 1 0 0 0]],.cells 0 5 [zw f.blocks[k]]]) hb.phis (fun p _ => zqb p _ hσ1)
   have ho:=zib f.blocks[k].ops (fun o => !ofS level o) 202 [] [.ptr σ.length 0 0 0] (σ ++ [.cells 0 1 [[.ptr 1 0 0 0]],.cells 0 5 [zw f.blocks[k]]]) hb.ops (fun o ho => by
    have:=zpP f level x y z dd σ hck hσ o (hb.op o ho) [.cells 0 5 [zw f.blocks[k]]] (by simp -implicitDefEqProofs only [go_sem])
    exact this)
   have hap : (f.blocks[k].phis.any fun p => !zjg p.bits) = !f.blocks[k].phis.all (fun p => zjg p.bits):=by rw [← zj6,yl]
   have hao : (f.blocks[k].ops.any fun p => !ofS level p) = !f.blocks[k].ops.all (ofS level):=by rw [← zj6,yl]
   rw [hap] at hp
   rw [hao] at ho
   rw [xl zaZ rfl,zcb,hd,zcl]
   cases e1 : f.blocks[k].phis.all (fun p => zjg p.bits)
   ·simp -implicitDefEqProofs only [go_sem,e1] at hp
    simp -implicitDefEqProofs only [go_sem,ilt hk,zH hk,rb,hp,zif,e1]
   ·cases e2 : f.blocks[k].ops.all (ofS level)
    ·simp -implicitDefEqProofs only [go_sem,e1,e2] at hp ho
     simp -implicitDefEqProofs only [go_sem,ilt hk,zH hk,rb,hp,ho,zif,e1,e2]
    ·have:=ih (k + 1) vU vU vU vU vU vU vU (by omega) (by omega)
     simp -implicitDefEqProofs only [go_sem,e1,e2] at hp ho this
     simp -implicitDefEqProofs only [go_sem,ilt hk,zH hk,rb,hp,ho,zif,e1,e2,zd hk hf.blocks,Ok.up hσ,zeW hck,this]
theorem zud (hf : okF f) : call T 160 [.one (.ptr 1 0 0 0)] σ = some (vI (if zeE f level = true then 0 else 6),σ):=by
 rw [ze (fn:=zU) rfl]
 have hlow:=zdw hck
 have hap : (f.params.any fun p => !zjg p) = !f.params.all zjg:=by rw [← zj6,yl]
 have hp:=zV f.params (fun p => !zjg p) 198 [] [] (σ ++ [.cells 0 1 [[.ptr 1 0 0 0]]]) hf.params (fun p _ => zqm p _)
 rw [hap] at hp
 have h:=fun a0 a2 a3 a4 a5 a9 a10 => zxM f level x y z dd σ hck hσ hf f.blocks.length 0 a0 a2 a3 a4 a5 a9 a10 (by omega) (by omega)
 simp only [yi,ye] at h
 have ha:=zgx level f.blocks
 cases e1 : zjg f.ret
 ·simp -implicitDefEqProofs only [go_sem,zU,hlow,e1,zeE,Ok.at hσ]
 cases e2 : f.params.all zjg
 ·simp -implicitDefEqProofs only [go_sem,e2] at hp
  simp -implicitDefEqProofs only [go_sem,zU,hlow,e1,e2,hp,zeE,Ok.at hσ]
 cases e3 : zcl level f.blocks with
 | none =>
   rw [e3] at ha
   simp only [yg] at ha
   simp -implicitDefEqProofs only [go_sem,e2,e3] at hp h
   simp -implicitDefEqProofs only [go_sem,zU,hlow,e1,e2,hp,h,zeE,← ha,Ok.at hσ]
 | some b =>
   rw [e3] at ha
   simp only [yh] at ha
   simp -implicitDefEqProofs only [go_sem,e2,e3] at hp h
   simp -implicitDefEqProofs only [go_sem,zU,hlow,e1,e2,hp,h,zeE,← ha,Ok.at hσ]
end
end AC
namespace AC
open Go Go.A Go.A.Lex
abbrev O0 (f : PFunc) : Ob:=.cells 0 3 [zbI f]
abbrev cM (g : Nat) : C:=.fn g [.ptr 1 0 0 0] []
abbrev O2 : Ob:=.cells 0 1 [[cM 159],[cM 160],[cM 161],[cM 162],[cM 163]]
def zli (pi : List Int) (p : PPhi) : Bool:=decide (p.src = pi) && decide (p.args.length = p.src.length)
def zdm (b : PBlock) : Bool:=!((decide (b.kind = 1) || decide (b.kind = 3)) && !decide (b.arg = 0))
def zn6 (pred : List (List Int)) (tree : List Int) (i : Nat) (b : PBlock) : Bool:=zia tree i i && (b.phis.all (zli (pred.getD i [])) && zdm b)
def zAy (pred : List (List Int)) (tree : List Int) (i : Nat) (b : PBlock) : Option (List Ob) :=
 if zia tree i i = false then some [.cells 0 5 [zw b]] else
 match b.phis.find? fun p => !zli (pred.getD i []) p with
 | some p => some [.cells 0 5 [zw b],.cells 0 4 [ztZ p]]
 | none => if zdm b = false then some [.cells 0 5 [zw b]] else none
def zeB (pred : List (List Int)) (tree : List Int) : Nat → List PBlock → Option (List Ob)
 | _,[] => none
 | i,b :: r => match zAy pred tree i b with
   | some G => some G
   | none => zeB pred tree (i + 1) r
theorem zvG (pred : List (List Int)) (tree : List Int) (i : Nat) (b : PBlock) : (zAy pred tree i b).isNone = zn6 pred tree i b:=by
 unfold zAy zn6
 cases h1 : zia tree i i
 ·simp
 ·simp only [Bool.true_eq_false,if_false,ym]
  cases h2 : b.phis.find? fun p => !zli (pred.getD i []) p with
  | some p =>
    rw [show b.phis.all (zli (pred.getD i [])) = false from zep h2]
    rfl
  | none =>
    rw [zex h2]
    cases h3 : zdm b <;> simp
def zcq (pred : List (List Int)) (tree : List Int) : Nat → List PBlock → Bool
 | _,[] => true
 | i,b :: r => zn6 pred tree i b && zcq pred tree (i + 1) r
theorem zin (pred : List (List Int)) (tree : List Int) : ∀ (l : List PBlock) (i : Nat),(zeB pred tree i l).isNone = zcq pred tree i l
 | [],_ => rfl
 | b :: r,i => by
   have h:=zvG pred tree i b
   simp only [zeB,zcq]
   cases e : zAy pred tree i b with
   | some G =>
     rw [e] at h
     simp only [yh] at h
     simp [← h]
   | none =>
     rw [e] at h
     simp only [yg] at h
     rw [← h,ym]
     exact zin pred tree r (i + 1)
section
variable (f : PFunc) (hf : okF f) (level : Int) (dd : C) (hdd : dd = .f (.lit (.map none))) (pred : List (List Int)) (hpl : pred.length = f.blocks.length) (hpp : ∀ l ∈ pred,l.length ≤ 4294967296) (tree : List Int) (htl : tree.length ≤ 4294967296) (x y : C) (hx : ∃ a,x = .f a) (hy : ∃ a,y = .f a)
abbrev zle (f : PFunc) (level : Int) (pred : List (List Int)) (tree : List Int) : zb:=[O0 f,zur f level (.f (.sl ((zI f).map rl))) (.f (.sl (pred.map rl))) (.f (eI tree)) (.f (.lit (.map none))),O2,.cells 0 2 [[.f (.sl ((zI f).map rl)),.f (.sl (pred.map rl))]]]
include hf hpl hpp htl
theorem zxY (b : PBlock) (hb : okB b) (i : Nat) (hi : i < f.blocks.length) : ∀ (d k : Nat) (a1 a3 a6 a7 a11 a12 a16 a17 a18 : V),b.phis.length - k = d → k ≤ b.phis.length →
  exec T zaT ⟨[.one (.ptr 1 0 0 0),a1,.one (.ptr 3 0 0 0),a3,vI i,.one (.ptr 4 0 0 0),a6,a7,vL (f.blocks.map rb),vI f.blocks.length,vI i,a11,a12,vL (b.phis.map rp),vI b.phis.length,vI k,a16,a17,a18],zle f level pred tree ++ [.cells 0 5 [zw b]],3,3⟩ =
   some (match (b.phis.drop k).find? (fun p => !zli (pred.getD i []) p) with
    | none => (.exit 2,⟨[.one (.ptr 1 0 0 0),vU,.one (.ptr 3 0 0 0),vU,vU,.one (.ptr 4 0 0 0),vU,vU,vL (f.blocks.map rb),vI f.blocks.length,vI i,vU,vU,vU,vU,vU,vU,vU,vU],zle f level pred tree ++ [.cells 0 5 [zw b]],3,3⟩)
    | some p => (.ret,⟨[vU,vI 5,vU,vU,vU,vU,vU,vU,vU,vU,vU,vU,vU,vU,vU,vU,vU,vU,vU],zle f level pred tree ++ [.cells 0 5 [zw b],.cells 0 4 [ztZ p]],3,3⟩)):=by
 intro d
 induction d with
 | zero =>
   intro k a1 a3 a6 a7 a11 a12 a16 a17 a18 h1 h2
   have hk : k = b.phis.length:=by omega
   subst hk
   rw [xl zaT rfl,zch]
   simp -implicitDefEqProofs only [go_sem,zle,yd,yc,List.find?_nil]
 | succ d ih =>
   intro k a1 a3 a6 a7 a11 a12 a16 a17 a18 h1 h2
   have hk : k < b.phis.length:=by omega
   have hd : b.phis.drop k = b.phis[k] :: b.phis.drop (k + 1):=yb hk
   have hi2 : i < pred.length:=by omega
   have hg : pred.getD i [] = pred[i]:=by simp [hi2]
   have he:=zig b.phis[k].src pred[i] [] (hb.phi _ (yf hk)).1
   rw [xl zaT rfl,zch,hd,List.find?_cons,hg]
   rw [hg] at ih
   by_cases c1 : b.phis[k].src = pred[i]
   ·by_cases c2 : b.phis[k].args.length = b.phis[k].src.length
    ·have c2' : ((b.phis[k].args.length : Int) = (b.phis[k].src.length : Int)) = True:=by simp [c2]
     have:=ih (k + 1) vU vU vU vU vU vU vU vU vU (by omega) (by omega)
     simp -implicitDefEqProofs only [go_sem,zle,eq_true c1] at he this
     simp -implicitDefEqProofs only [go_sem,zle,ilt hk,zH hk,zH hi2,rp,rl,he,eq_true c1,c2',eq_true c2,zli,zd hk hb.phis,this]
    ·have c2' : ¬ (b.phis[k].args.length : Int) = (b.phis[k].src.length : Int):=by omega
     simp -implicitDefEqProofs only [go_sem,zle,eq_true c1] at he
     simp -implicitDefEqProofs only [go_sem,zle,ilt hk,zH hk,zH hi2,rp,rl,he,eq_true c1,c2',c2,zli]
   ·simp -implicitDefEqProofs only [go_sem,zle,c1] at he
    simp -implicitDefEqProofs only [go_sem,zle,ilt hk,zH hk,zH hi2,rp,rl,he,c1,zli]
theorem zxV : ∀ (d k : Nat) (a1 a3 a4 a5 a6 a7 a11 a12 a13 a14 a15 a16 a17 a18 : V),f.blocks.length - k = d → k ≤ f.blocks.length →
  exec T zaU ⟨[.one (.ptr 1 0 0 0),a1,.one (.ptr 3 0 0 0),a3,a4,a5,a6,a7,vL (f.blocks.map rb),vI f.blocks.length,vI k,a11,a12,a13,a14,a15,a16,a17,a18],zle f level pred tree,3,3⟩ =
   some (match zeB pred tree k (f.blocks.drop k) with
    | none => (.exit 0,⟨[vU,vU,vU,vU,vU,vU,vU,vU,vU,vU,vU,vU,vU,vU,vU,vU,vU,vU,vU],zle f level pred tree,3,3⟩)
    | some G => (.ret,⟨[vU,vI 5,vU,vU,vU,vU,vU,vU,vU,vU,vU,vU,vU,vU,vU,vU,vU,vU,vU],zle f level pred tree ++ G,3,3⟩)):=by
 intro d
 induction d with
 | zero =>
   intro k a1 a3 a4 a5 a6 a7 a11 a12 a13 a14 a15 a16 a17 a18 h1 h2
   have hk : k = f.blocks.length:=by omega
   subst hk
   rw [xl zaU rfl,zca]
   simp -implicitDefEqProofs only [go_sem,zle,yd,yc,zeB]
 | succ d ih =>
   intro k a1 a3 a4 a5 a6 a7 a11 a12 a13 a14 a15 a16 a17 a18 h1 h2
   have hk : k < f.blocks.length:=by omega
   have hd : f.blocks.drop k = f.blocks[k] :: f.blocks.drop (k + 1):=yb hk
   have hb:=hf.block _ (yf hk)
   have ho:=zmc tree k k htl
   have h0:=fun a1 a3 a6 a7 a11 a12 a16 a17 a18 => zxY f hf level pred hpl hpp tree htl f.blocks[k] hb k hk f.blocks[k].phis.length 0 a1 a3 a6 a7 a11 a12 a16 a17 a18 (by omega) (by omega)
   simp only [yi,ye] at h0
   rw [xl zaU rfl,zca,hd,zeB,zAy]
   cases e1 : zia tree k k
   ·simp -implicitDefEqProofs only [go_sem,e1] at ho
    simp -implicitDefEqProofs only [go_sem,zle,ilt hk,zH hk,rb,ho]
   ·cases e2 : f.blocks[k].phis.find? (fun p => !zli (pred.getD k []) p) with
    | some p =>
      simp -implicitDefEqProofs only [go_sem,zle,e1,e2] at ho h0
      simp -implicitDefEqProofs only [go_sem,zle,ilt hk,zH hk,rb,ho,h0]
    | none =>
      have:=ih (k + 1) vU vU vU vU vU vU vU vU vU vU vU vU vU vU (by omega) (by omega)
      simp -implicitDefEqProofs only [go_sem,zle,e1,e2] at ho h0 this
      by_cases k1 : f.blocks[k].kind = 1
      ·by_cases k3 : f.blocks[k].arg = 0
       ·simp -implicitDefEqProofs only [go_sem,zle,ilt hk,zH hk,rb,ho,h0,zdm,eq_true k1,eq_true k3,zd hk hf.blocks,this]
       ·simp -implicitDefEqProofs only [go_sem,zle,ilt hk,zH hk,rb,ho,h0,zdm,eq_true k1,k3]
      ·by_cases k2 : f.blocks[k].kind = 3
       ·by_cases k3 : f.blocks[k].arg = 0
        ·simp -implicitDefEqProofs only [go_sem,zle,ilt hk,zH hk,rb,ho,h0,zdm,k1,eq_true k2,eq_true k3,zd hk hf.blocks,this]
        ·simp -implicitDefEqProofs only [go_sem,zle,ilt hk,zH hk,rb,ho,h0,zdm,k1,eq_true k2,k3]
       ·simp -implicitDefEqProofs only [go_sem,zle,ilt hk,zH hk,rb,ho,h0,zdm,k1,k2,zd hk hf.blocks,this]
end
theorem zCh (n : Nat) : (n + 1 + 1 + 1 + 1 ≤ 3) = False:=by simp
theorem zm6 (f : PFunc) (hf : okF f) (level : Int) (hg : za5 f = false) : call T 159 [.one (.ptr 1 0 0 0)] [O0 f,zur f level (.f (.sl [])) (.f (.sl [])) (.f (.sl [])) (.f (.lit (.map none))),O2] = some (vI 5,[O0 f,zur f level (.f (.sl [])) (.f (.sl [])) (.f (.sl [])) (.f (.lit (.map none))),O2]):=by
 rw [ze (fn:=zW) rfl]
 have h:=zjd f hf
 simp -implicitDefEqProofs only [go_sem,zmd,hg] at h
 simp -implicitDefEqProofs only [go_sem,zW,h]
def zed (f : PFunc) (tree : List Int) : Bool:=za5 f && zcq (zam (zI f)) tree 0 f.blocks
theorem zlS (succ : List (List Int)) (hs : zkN succ) (ht : (succ.map yn).sum ≤ 4294967296) : ∀ l ∈ zam succ,l.length ≤ 4294967296:=by
 have h : ∀ (l : List (List Int)) (i : Nat) (out : List (List Int)) (B : Nat),(∀ y ∈ out,y.length ≤ B) → ∀ y ∈ zbb i l out,y.length ≤ B + (l.map yn).sum:=by
  intro l
  induction l with
  | nil => intro i out B h y hy; exact h y hy
  | cons x r ih =>
    intro i out B h y hy
    have:=ih (i + 1) (x.foldl (zq4 i) out) (B + x.length) (zps _ _ _ _ h) y hy
    simp only [yj,List.sum_cons]
    omega
 intro l hl
 have:=h succ 0 (List.replicate succ.length []) 0 (fun y hy => by rw [(List.mem_replicate.1 hy).2]; simp) l hl
 omega
theorem ze4 {f : PFunc} (h : za5 f = true) : zdb (zI f) = true:=by
 simp only [za5,Bool.and_eq_true] at h
 exact h.2.2
theorem zo3 (f : PFunc) (hf : okF f) (level : Int) (hg : za5 f = true) (tree : List Int) (htl : tree.length ≤ 4294967296)
  (hT : call T 195 [.agg [.f (.sl ((zI f).map rl)),.f (.sl ((zam (zI f)).map rl))],vI 0] [] = some (vIs tree,[])) :
  call T 159 [.one (.ptr 1 0 0 0)] [O0 f,zur f level (.f (.sl [])) (.f (.sl [])) (.f (.sl [])) (.f (.lit (.map none))),O2] =
   some (vI (if zcq (zam (zI f)) tree 0 f.blocks = true then 0 else 5),[O0 f,zur f level (.f (.sl ((zI f).map rl))) (.f (.sl ((zam (zI f)).map rl))) (.f (eI tree)) (.f (.lit (.map none))),O2]):=by
 rw [ze (fn:=zW) rfl]
 have h:=zjd f hf
 have hl:=fun a1 a3 a4 a5 a6 a7 a11 a12 a13 a14 a15 a16 a17 a18 => zxV f hf level (zam (zI f)) (by rw [zgl]; simp [zI]) (zlS _ (zl5 hf) (zhK (ze4 hg))) tree htl f.blocks.length 0 a1 a3 a4 a5 a6 a7 a11 a12 a13 a14 a15 a16 a17 a18 (by omega) (by omega)
 simp only [yi,ye] at hl
 have hn:=zin (zam (zI f)) tree f.blocks 0
 simp -implicitDefEqProofs only [go_sem,zmd,hg] at h hT
 cases e : zeB (zam (zI f)) tree 0 f.blocks with
 | none =>
   rw [e] at hn
   simp only [yg] at hn
   simp -implicitDefEqProofs only [go_sem,zle,e] at hl
   simp -implicitDefEqProofs only [go_sem,zW,h,hT,hl,← hn]
 | some G =>
   rw [e] at hn
   simp only [yh] at hn
   simp -implicitDefEqProofs only [go_sem,zle,e] at hl
   simp -implicitDefEqProofs only [go_sem,zW,h,hT,hl,← hn,zCh]
end AC
namespace AC
open Go Go.A Go.A.Lex
section
variable (succ pred : List (List Int)) (hn : succ.length ≤ 64) (hp : pred.length ≤ 64) (hl : ∀ l ∈ succ,l.length ≤ 4294967296) (hlp : ∀ l ∈ pred,l.length ≤ 4294967296)
include hn hp hl hlp
end
section
variable (succ : List (List Int)) (root : Int)
def ovB (c b : Nat) : Bool:=(zjD succ root (-1)).getD b false && !(zjD succ root (c : Int)).getD b false
def zeQ (b a : Nat) : Nat → Nat → Bool
 | _,0 => true
 | k,d + 1 => (decide (k = b) || (!ovB succ root k b || ovB succ root k a)) && zeQ b a (k + 1) d
def zhE (b : Nat) : Nat → Nat → Int → Int
 | _,0,v => v
 | k,d + 1,v => zhE b (k + 1) d (if (!decide (k = b) && (ovB succ root k b && zeQ succ root b k 0 succ.length)) = true then (k : Int) else v)
def zA6 (b : Nat) : Int:=if (b : Int) = root then -1 else zhE succ root b 0 succ.length (-2)
def zjk : List Int:=(List.range succ.length).map fun b => zA6 succ root b
end
end AC
namespace AC
open Go Go.A Go.A.Lex
section
variable (succ pred : List (List Int)) (root : Int) (hn1 : 1 ≤ succ.length) (hn : succ.length ≤ 64) (hl : ∀ l ∈ succ,l.length ≤ 4294967296) (hr : ∀ l ∈ succ,∀ y ∈ l,0 ≤ y ∧ y < (succ.length : Int)) (h0 : 0 ≤ root ∧ root < (succ.length : Int))
include hn hl hr h0
end
end AC
namespace AC
open Go Go.A Go.A.Lex
section
variable (f : PFunc) (hf : okF f) (succ pred : List (List Int)) (hpl : pred.length = f.blocks.length) (hpe : ∀ l ∈ pred,l.length ≤ 4294967296) (reach : List Bool) (hrl : reach.length = f.blocks.length)
include hf hpl hpe hrl
def zkt (pred : List (List Int)) (reach : List Bool) (i : Nat) (b : PBlock) : Bool:=reach.getD i false && (zdm b && b.phis.all (zli (pred.getD i [])))
def zbB (pred : List (List Int)) (reach : List Bool) : Nat → List PBlock → Bool
 | _,[] => true
 | i,b :: r => zkt pred reach i b && zbB pred reach (i + 1) r
end
def zhg (f : PFunc) : Bool:=za5 f && zbB (zam (zI f)) (zjD (zI f) 0 (-1)) 0 f.blocks
end AC
namespace AC
open Go Go.A Go.A.Lex
section
variable (f : PFunc) (hf : okF f) (level : Int)
include hf
end
end AC
namespace AC
open Go Go.A Go.A.Lex
section
variable (succ pred : List (List Int)) (root : Int) (hn1 : 1 ≤ succ.length) (hn : succ.length ≤ 64) (hl : ∀ l ∈ succ,l.length ≤ 4294967296) (hr : ∀ l ∈ succ,∀ y ∈ l,0 ≤ y ∧ y < (succ.length : Int)) (h0 : 0 ≤ root ∧ root < (succ.length : Int))
include hn hl hr h0
end
end AC
namespace AC
open Go Go.A Go.A.Lex
def pathFrom (t : List Int) : Nat → List Int → Int → List Int
 | 0,_,_ => []
 | r + 1,acc,a => if a < 0 ∨ (t.length : Int) ≤ a then [] else if tr t a = -1 then acc ++ [a] else pathFrom t r (acc ++ [a]) (tr t a)
def zx9 (t : List Int) (a : Int) : List Int:=pathFrom t t.length [] a
section
variable (t : List Int) (htl : t.length ≤ 4294967296)
include htl
def zs0 (t : List Int) (a b : Int) : Int:=if zfD t = true then ((zx9 t a).find? fun x => decide (x ∈ zx9 t b)).getD (-2) else -2
end
end AC
namespace AC
open Go Go.A Go.A.Lex
def zfK (defs : List Use) : Nat → List Use → Bool
 | _,[] => true
 | k,u :: r => (value u.v && decide (zB u.v 0 defs = (k : Int))) && zfK defs (k + 1) r
def zha (defs : List Use) (v : Int) : Use:=defs.getD (zB v 0 defs).toNat ⟨0,(0,0),0,0⟩
def zng (defs : List Use) (u : Use) : Bool:=!decide (zB u.v 0 defs < 0)
def sameShape (defs : List Use) (u : Use) : Bool:=decide ((zha defs u.v).shape = u.shape)
def zgV (defs : List Use) (tree : List Int) (u : Use) : Bool :=
 (decide ((zha defs u.v).block < 0) || (decide ((zha defs u.v).block = u.block) && decide ((zha defs u.v).at' < u.at'))) || !(decide ((zha defs u.v).block = u.block) || !decide (zs0 tree (zha defs u.v).block u.block = (zha defs u.v).block))
theorem ziX (v : Int) : ∀ (l : List Use) (k : Nat),0 ≤ zB v k l → (k : Int) ≤ zB v k l ∧ zB v k l < ((k + l.length : Nat) : Int)
 | [],k,h => by simp [zB] at h
 | u :: r,k,h => by
   rw [zB] at h ⊢
   split
   ·simp only [yk]; omega
   ·rename_i c
    rw [if_neg c] at h
    have:=ziX v r (k + 1) h
    simp only [yk]
    omega
section
variable (f : PFunc) (hf : okF f) (defs uses : List Use) (hdl : defs.length ≤ 4294967296) (hul : uses.length ≤ 4294967296)
include hf hdl
include hul
variable (hall : ∀ u ∈ uses,zng defs u = true)
include hall
end
end AC
namespace AC
open Go Go.A Go.A.Lex
theorem zA2 (n : Nat) : (1 < n + 5) = True:=by (first | (simp; omega) | simp)
theorem zAT (n : Nat) : (3 < n + 5) = True:=by (first | (simp; omega) | simp)
theorem zAo (n : Nat) : (4 < n + 5) = True:=by (first | (simp; omega) | simp)
theorem zAt (n : Nat) : (1 < n + 6) = True:=by (first | (simp; omega) | simp)
theorem zAq (n : Nat) : (3 < n + 6) = True:=by (first | (simp; omega) | simp)
theorem zAA (n : Nat) : (4 < n + 6) = True:=by (first | (simp; omega) | simp)
theorem zAV (n : Nat) : (1 < n + 7) = True:=by (first | (simp; omega) | simp)
theorem zAI (n : Nat) : (3 < n + 7) = True:=by (first | (simp; omega) | simp)
theorem zAC (n : Nat) : (4 < n + 7) = True:=by (first | (simp; omega) | simp)
theorem zAU (n : Nat) : (1 < n + 8) = True:=by (first | (simp; omega) | simp)
theorem zAN (n : Nat) : (3 < n + 8) = True:=by (first | (simp; omega) | simp)
theorem zA8 (n : Nat) : (4 < n + 8) = True:=by (first | (simp; omega) | simp)
attribute [go_sem] zA2 zAT zAo zAt zAq zAA zAV zAI zAC zAU zAN zA8
def getM {α : Type} (k : Int) : List (Int × α) → Option α
 | [] => none
 | e :: es => if e.1 = k then some e.2 else getM k es
def zh7 {α : Type} (k : Int) (v : α) : List (Int × α) → List (Int × α)
 | [] => [(k,v)]
 | e :: es => if e.1 = k then (k,v) :: es else e :: zh7 k v es
def zgu {α : Type} (enc : α → V) (D : List (Int × α)) : List (Int × V):=D.map fun e => (e.1,enc e.2)
theorem zlz {α : Type} (enc : α → V) (k : Int) : ∀ D : List (Int × α),zfj k (zgu enc D) = (getM k D).map enc
 | [] => rfl
 | e :: es => by
   have ih:=zlz enc k es
   unfold zgu at ih ⊢
   simp only [yj,zfj,getM]
   by_cases h : e.1 = k
   ·rw [if_pos h,if_pos h]; rfl
   ·rw [if_neg h,if_neg h,ih]
theorem zlD {α : Type} (enc : α → V) (k : Int) (v : α) : ∀ D : List (Int × α),zi8 k (enc v) (zgu enc D) = zgu enc (zh7 k v D)
 | [] => rfl
 | e :: es => by
   have ih:=zlD enc k v es
   unfold zgu at ih ⊢
   simp only [yj,zi8,zh7]
   by_cases h : e.1 = k
   ·rw [if_pos h,if_pos h]; rfl
   ·rw [if_neg h,if_neg h,ih]; rfl
theorem zrQ {α : Type} (enc : α → V) (n : Nat) (h : ∀ a,(enc a).lt n = true) : ∀ D : List (Int × α),C.ltm n (zgu enc D) = true
 | [] => rfl
 | e :: es => by
   have ih:=zrQ enc n h es
   unfold zgu at ih ⊢
   simp only [yj,C.ltm,h,ih,Bool.and_self]
structure PDef where
 block : Int
 at' : Int
 shape : Int × Int
abbrev zhW:=List (Int × PDef)
def zfr (d : PDef) : V:=.agg [.f (ei d.block),.f (ei d.at'),.f (ei d.shape.1),.f (ei d.shape.2)]
theorem zK (n : Nat) (D : zhW) : C.ltm n (zgu zfr D) = true:=zrQ zfr n (fun a => by simp [zfr,V.lt,C.lts,C.lt]) D
theorem zhI (k : Int) (D : zhW) : zfj k (zgu zfr D) = (getM k D).map zfr:=zlz zfr k D
theorem zxW (k : Int) (d : PDef) (D : zhW) : zi8 k (V.agg [.f (.lit (.int .i64 d.block)),.f (.lit (.int .i64 d.at')),.f (.lit (.int .i64 d.shape.1)),.f (.lit (.int .i64 d.shape.2))]) (zgu zfr D) = zgu zfr (zh7 k d D):=zlD zfr k d D
abbrev P1 : Ob:=.cells 0 1 [[.ptr 1 0 0 0]]
abbrev stD (f : PFunc) (level : Int) (x y z : C) (D : zhW) (r : zb) : zb:=O0 f :: zur f level x y z (.map 4) :: O2 :: P1 :: .mp (zgu zfr D) :: r
section
variable (f : PFunc) (level : Int) (succ pred : List (List Int)) (tree : List Int) (D : zhW) (r : zb) (hr : Obs.lt (r.length + 5) r = true)
abbrev xS (l : List (List Int)) : C:=.f (.sl (l.map rl))
abbrev zS (l : List Int) : C:=.f (eI l)
include hr
theorem zot (v : Int) (d : PDef) : call T 204 [.one (.ptr 1 0 0 0),vI v,zfr d] (stD f level (xS succ) (xS pred) (zS tree) D r) = some (vB (getM v D).isNone,stD f level (xS succ) (xS pred) (zS tree) (zh7 v d D) r):=by
 rw [ze (fn:=zbM) rfl]
 have hp:=zxW v d D
 cases e : getM v D with
 | none => simp -implicitDefEqProofs only [go_sem,zbM,stD,zfr,zhI,e,hp,hr,zK,ya,yg]
 | some d0 => simp -implicitDefEqProofs only [go_sem,zbM,stD,zfr,zhI,e,hp,hr,zK,ya,yh]
theorem zni (u : Use) : call T 208 [vI u.v,.agg [.f (ei u.shape.1),.f (ei u.shape.2)],vI u.block,vI u.at',.one (.ptr 3 0 0 0)] (stD f level (xS succ) (xS pred) (zS tree) D r) =
  some (vI (if (getM u.v D).isNone then 7 else 0),stD f level (xS succ) (xS pred) (zS tree) D r):=by
 rw [ze (fn:=zaf) rfl]
 cases e : getM u.v D with
 | none => simp -implicitDefEqProofs only [go_sem,zaf,stD,zfr,zhI,e,hr,zK,ya,yg]
 | some d0 => simp -implicitDefEqProofs only [go_sem,zaf,stD,zfr,zhI,e,hr,zK,ya,yh]
end
def ziJ (D : zhW) (v : Int) : PDef:=(getM v D).getD ⟨0,0,(0,0)⟩
def zik (D : zhW) (u : Use) : Int:=if (getM u.v D).isNone = true then 7 else 0
def zbi (D : zhW) (u : Use) : Int:=if (ziJ D u.v).shape = u.shape then 0 else 6
def zax (D : zhW) (tree : List Int) (u : Use) : Int :=
 let d:=ziJ D u.v
 if d.block < 0 then 0 else if (d.block = u.block ∧ d.at' < u.at') ∨ (d.block ≠ u.block ∧ zia tree d.block u.block = true) then 0 else 7
section
variable (f : PFunc) (level : Int) (succ pred : List (List Int)) (tree : List Int) (D : zhW) (r : zb) (hr : Obs.lt (r.length + 6) r = true)
include hr
theorem zop (u : Use) : call T 209 [vI u.v,.agg [.f (ei u.shape.1),.f (ei u.shape.2)],vI u.block,vI u.at',.one (.ptr 5 0 0 0)] (stD f level (xS succ) (xS pred) (zS tree) D (P1 :: r)) =
  some (vI (zbi D u),stD f level (xS succ) (xS pred) (zS tree) D (P1 :: r)):=by
 rw [ze (fn:=zu) rfl]
 have hp : ∀ a b : Int × Int,(a = b) = (a.1 = b.1 ∧ a.2 = b.2):=fun a b => by rw [Prod.ext_iff]
 have key : ∀ d : PDef,ziJ D u.v = d → zfj u.v (zgu zfr D) = some (zfr d) ∨ (zfj u.v (zgu zfr D) = none ∧ d = ⟨0,0,(0,0)⟩):=fun d hd => by
  rw [zhI]
  unfold ziJ at hd
  cases e : getM u.v D with
  | none => rw [e] at hd; exact .inr ⟨rfl,hd.symm⟩
  | some d0 => rw [e] at hd; simp at hd; subst hd; exact .inl rfl
 by_cases c1 : (ziJ D u.v).shape.1 = u.shape.1
 ·by_cases c2 : (ziJ D u.v).shape.2 = u.shape.2
  ·rcases key _ rfl with h | ⟨h,h2⟩
   ·simp -implicitDefEqProofs only [go_sem,zu,stD,zfr,h,hr,zK,ya,zbi,hp,eq_true c1,eq_true c2]
   ·rw [h2] at c1 c2
    simp -implicitDefEqProofs only [go_sem,zu,stD,zfr,h,hr,zK,ya,zbi,hp,h2,eq_true c1,eq_true c2]
  ·rcases key _ rfl with h | ⟨h,h2⟩
   ·simp -implicitDefEqProofs only [go_sem,zu,stD,zfr,h,hr,zK,ya,zbi,hp,eq_true c1,c2,and_false]
   ·rw [h2] at c1 c2
    simp -implicitDefEqProofs only [go_sem,zu,stD,zfr,h,hr,zK,ya,zbi,hp,h2,eq_true c1,c2,and_false]
 ·rcases key _ rfl with h | ⟨h,h2⟩
  ·simp -implicitDefEqProofs only [go_sem,zu,stD,zfr,h,hr,zK,ya,zbi,hp,c1,false_and]
  ·rw [h2] at c1
   simp -implicitDefEqProofs only [go_sem,zu,stD,zfr,h,hr,zK,ya,zbi,hp,h2,c1,false_and]
theorem zoT (htl : tree.length ≤ 4294967296) (u : Use) : call T 210 [vI u.v,.agg [.f (ei u.shape.1),.f (ei u.shape.2)],vI u.block,vI u.at',.one (.ptr 5 0 0 0)] (stD f level (xS succ) (xS pred) (zS tree) D (P1 :: r)) =
  some (vI (zax D tree u),stD f level (xS succ) (xS pred) (zS tree) D (P1 :: r)):=by
 rw [ze (fn:=zg) rfl]
 have key : ∀ d : PDef,ziJ D u.v = d → zfj u.v (zgu zfr D) = some (zfr d) ∨ (zfj u.v (zgu zfr D) = none ∧ d = ⟨0,0,(0,0)⟩):=fun d hd => by
  rw [zhI]
  unfold ziJ at hd
  cases e : getM u.v D with
  | none => rw [e] at hd; exact .inr ⟨rfl,hd.symm⟩
  | some d0 => rw [e] at hd; simp at hd; subst hd; exact .inl rfl
 rcases key _ rfl with h | ⟨h,h2⟩
 ·have ho:=zmc tree (ziJ D u.v).block u.block htl
  simp -implicitDefEqProofs only [go_sem] at ho
  by_cases c1 : (ziJ D u.v).block < 0
  ·simp -implicitDefEqProofs only [go_sem,zg,stD,zfr,h,hr,zK,ya,zax,c1]
  by_cases c2 : (ziJ D u.v).block = u.block
  ·by_cases c3 : (ziJ D u.v).at' < u.at'
   ·simp -implicitDefEqProofs only [go_sem,zg,stD,zfr,h,hr,zK,ya,zax,c1,eq_true c2,c3,true_and,true_or]
   ·simp -implicitDefEqProofs only [go_sem,zg,stD,zfr,h,hr,zK,ya,zax,c1,eq_true c2,c3,and_false,false_and,or_self,ne_eq]
  ·cases c4 : zia tree (ziJ D u.v).block u.block
   ·rw [c4] at ho
    simp -implicitDefEqProofs only [go_sem,zg,stD,zfr,h,hr,zK,ya,zax,c1,c2,ho,c4,and_false,false_and,or_self,ne_eq]
   ·rw [c4] at ho
    simp -implicitDefEqProofs only [go_sem,zg,stD,zfr,h,hr,zK,ya,zax,c1,c2,ho,c4,and_self,false_and,false_or,ne_eq]
 ·have ho:=zmc tree (0 : Int) u.block htl
  simp -implicitDefEqProofs only [go_sem] at ho
  by_cases c1 : (0 : Int) < 0
  ·simp -implicitDefEqProofs only [go_sem,zg,stD,zfr,h,hr,zK,ya,zax,h2,c1]
  by_cases c2 : (0 : Int) = u.block
  ·by_cases c3 : (0 : Int) < u.at'
   ·simp -implicitDefEqProofs only [go_sem,zg,stD,zfr,h,hr,zK,ya,zax,h2,c1,eq_true c2,c3,true_and,true_or]
   ·simp -implicitDefEqProofs only [go_sem,zg,stD,zfr,h,hr,zK,ya,zax,h2,c1,eq_true c2,c3,and_false,false_and,or_self,ne_eq]
  ·cases c4 : zia tree (0 : Int) u.block
   ·rw [c4] at ho
    simp -implicitDefEqProofs only [go_sem,zg,stD,zfr,h,hr,zK,ya,zax,h2,c1,c2,ho,c4,and_false,false_and,or_self,ne_eq]
   ·rw [c4] at ho
    simp -implicitDefEqProofs only [go_sem,zg,stD,zfr,h,hr,zK,ya,zax,h2,c1,c2,ho,c4,and_self,false_and,false_or,ne_eq]
end
end AC
namespace AC
open Go Go.A Go.A.Lex
def zcy : Nat → zhW → List Int → zhW
 | _,D,[] => D
 | i,D,b :: r => zcy (i + 1) (zh7 ((i : Int) + 1) ⟨-1,0,(b,1)⟩ D) r
def zee (i : Int) : zhW → List PPhi → zhW × Option PPhi
 | D,[] => (D,none)
 | D,p :: r => if p.dst < 1 ∨ 1023 < p.dst then (D,some p) else if (getM p.dst D).isNone = true then zee i (zh7 p.dst ⟨i,-1,(p.bits,1)⟩ D) r else (zh7 p.dst ⟨i,-1,(p.bits,1)⟩ D,some p)
def zgz (i : Int) : Nat → zhW → List POp → zhW × Option POp
 | _,D,[] => (D,none)
 | k,D,o :: r => if (zY o).1 ≤ 0 then zgz i (k + 1) D r else if (getM o.dst D).isNone = true then zgz i (k + 1) (zh7 o.dst ⟨i,k,zY o⟩ D) r else (zh7 o.dst ⟨i,k,zY o⟩ D,some o)
def zcw : Nat → zhW → List PBlock → zhW × Option (List Ob)
 | _,D,[] => (D,none)
 | i,D,b :: r => match zee i D b.phis with
   | (D1,some p) => (D1,some [.cells 0 5 [zw b],.cells 0 4 [ztZ p]])
   | (D1,none) => match zgz i 0 D1 b.ops with
     | (D2,some o) => (D2,some [.cells 0 5 [zw b],.cells 0 6 [cOp o]])
     | (D2,none) => zcw (i + 1) D2 r
section
variable (f : PFunc) (hf : okF f) (level : Int) (succ pred : List (List Int)) (tree : List Int)
abbrev sD (f : PFunc) (level : Int) (succ pred : List (List Int)) (tree : List Int) (D : zhW) (r : zb) : zb:=stD f level (xS succ) (xS pred) (zS tree) D r
include hf
theorem ztl : ∀ (d k : Nat) (D : zhW) (a0 a2 a3 a4 a5 a6 a7 a8 a9 a10 a11 a15 a16 a17 a18 a19 a20 a21 a22 a23 a24 a25 a26 a27 a28 a29 : V),f.params.length - k = d → k ≤ f.params.length →
  exec T zar ⟨[a0,.one (.ptr 3 0 0 0),a2,a3,a4,a5,a6,a7,a8,a9,a10,a11,vIs f.params,vI f.params.length,vI k,a15,a16,a17,a18,a19,a20,a21,a22,a23,a24,a25,a26,a27,a28,a29],sD f level succ pred tree D [],3,5⟩ =
   some (.exit 0,⟨[vU,.one (.ptr 3 0 0 0),vU,vU,vU,vU,vU,vU,vU,vU,vU,vU,vU,vU,vU,vU,vU,vU,vU,vU,vU,vU,vU,vU,vU,vU,vU,vU,vU,vU],sD f level succ pred tree (zcy k D (f.params.drop k)) [],3,5⟩):=by
 intro d
 induction d with
 | zero =>
   intro k D a0 a2 a3 a4 a5 a6 a7 a8 a9 a10 a11 a15 a16 a17 a18 a19 a20 a21 a22 a23 a24 a25 a26 a27 a28 a29 h1 h2
   have hk : k = f.params.length:=by omega
   subst hk
   rw [xl zar rfl,zbH]
   simp -implicitDefEqProofs only [go_sem,stD,yd,yc,zcy]
 | succ d ih =>
   intro k D a0 a2 a3 a4 a5 a6 a7 a8 a9 a10 a11 a15 a16 a17 a18 a19 a20 a21 a22 a23 a24 a25 a26 a27 a28 a29 h1 h2
   have hk : k < f.params.length:=by omega
   have hd : f.params.drop k = f.params[k] :: f.params.drop (k + 1):=yb hk
   have hsc:=zgc f.params[k]
   have hp:=zot f level succ pred tree D [] rfl ((k : Int) + 1) ⟨-1,0,(f.params[k],1)⟩
   have hw:=zd hk hf.params
   have hc : ((k + 1 : Nat) : Int) = (k : Int) + 1:=by omega
   have:=ih (k + 1) (zh7 ((k : Int) + 1) ⟨-1,0,(f.params[k],1)⟩ D) vU vU vU vU vU vU vU vU vU vU vU vU vU vU vU vU vU vU vU vU vU vU vU vU vU vU (by omega) (by omega)
   rw [xl zar rfl,zbH,hd,zcy]
   rw [hc] at hw this
   simp -implicitDefEqProofs only [go_sem,stD,zfr] at hp hsc this
   simp -implicitDefEqProofs only [go_sem,stD,ilt hk,zH hk,ri,hsc,hp,hw,this]
theorem zub (b : PBlock) (hb : okB b) (i : Int) : ∀ (d k : Nat) (D : zhW) (a0 a2 a3 a4 a7 a8 a9 a10 a11 a12 a13 a14 a15 a19 a23 a24 a25 a26 a27 a28 a29 : V),b.phis.length - k = d → k ≤ b.phis.length →
  exec T zaz ⟨[a0,.one (.ptr 3 0 0 0),a2,a3,a4,vI i,.one (.ptr 5 0 0 0),a7,a8,a9,a10,a11,a12,a13,a14,a15,vL (f.blocks.map rb),vI f.blocks.length,vI i,a19,vL (b.phis.map rp),vI b.phis.length,vI k,a23,a24,a25,a26,a27,a28,a29],sD f level succ pred tree D [.cells 0 5 [zw b]],3,5⟩ =
   some (match zee i D (b.phis.drop k) with
    | (D1,none) => (.exit 4,⟨[vU,.one (.ptr 3 0 0 0),vU,vU,vU,vI i,.one (.ptr 5 0 0 0),vU,vU,vU,vU,vU,vU,vU,vU,vU,vL (f.blocks.map rb),vI f.blocks.length,vI i,vU,vU,vU,vU,vU,vU,vU,vU,vU,vU,vU],sD f level succ pred tree D1 [.cells 0 5 [zw b]],3,5⟩)
    | (D1,some p) => (.ret,⟨[vU,vU,vI 7,vU,vU,vU,vU,vU,vU,vU,vU,vU,vU,vU,vU,vU,vU,vU,vU,vU,vU,vU,vU,vU,vU,vU,vU,vU,vU,vU],sD f level succ pred tree D1 [.cells 0 5 [zw b],.cells 0 4 [ztZ p]],3,5⟩)):=by
 intro d
 induction d with
 | zero =>
   intro k D a0 a2 a3 a4 a7 a8 a9 a10 a11 a12 a13 a14 a15 a19 a23 a24 a25 a26 a27 a28 a29 h1 h2
   have hk : k = b.phis.length:=by omega
   subst hk
   rw [xl zaz rfl,zbw]
   simp -implicitDefEqProofs only [go_sem,stD,yd,yc,zee]
 | succ d ih =>
   intro k D a0 a2 a3 a4 a7 a8 a9 a10 a11 a12 a13 a14 a15 a19 a23 a24 a25 a26 a27 a28 a29 h1 h2
   have hk : k < b.phis.length:=by omega
   have hd : b.phis.drop k = b.phis[k] :: b.phis.drop (k + 1):=yb hk
   have hsc:=zgc b.phis[k].bits
   have hp:=zot f level succ pred tree D [.cells 0 5 [zw b],.cells 0 4 [ztZ b.phis[k]]] (by simp -implicitDefEqProofs only [go_sem]) b.phis[k].dst ⟨i,-1,(b.phis[k].bits,1)⟩
   rw [xl zaz rfl,zbw,hd,zee]
   simp -implicitDefEqProofs only [go_sem,stD,zfr] at hp hsc
   by_cases c1 : b.phis[k].dst < 1
   ·simp -implicitDefEqProofs only [go_sem,stD,ilt hk,zH hk,rp,c1]
   by_cases c2 : 1023 < b.phis[k].dst
   ·simp -implicitDefEqProofs only [go_sem,stD,ilt hk,zH hk,rp,c1,c2]
   cases c3 : (getM b.phis[k].dst D).isNone
   ·rw [c3] at hp
    simp -implicitDefEqProofs only [go_sem,stD,ilt hk,zH hk,rp,c1,c2,hsc,hp]
   ·have:=ih (k + 1) (zh7 b.phis[k].dst ⟨i,-1,(b.phis[k].bits,1)⟩ D) vU vU vU vU vU vU vU vU vU vU vU vU vU vU vU vU vU vU vU vU vU (by omega) (by omega)
    rw [c3] at hp
    simp -implicitDefEqProofs only [go_sem,stD] at this
    simp -implicitDefEqProofs only [go_sem,stD,ilt hk,zH hk,rp,c1,c2,hsc,hp,zK,zd hk hb.phis,this]
theorem ztw (b : PBlock) (hb : okB b) (i : Int) : ∀ (d k : Nat) (D : zhW) (a0 a2 a3 a4 a6 a7 a8 a9 a10 a11 a12 a13 a14 a15 a19 a20 a21 a22 a23 a24 a28 a29 : V),b.ops.length - k = d → k ≤ b.ops.length →
  exec T zaq ⟨[a0,.one (.ptr 3 0 0 0),a2,a3,a4,vI i,a6,a7,a8,a9,a10,a11,a12,a13,a14,a15,vL (f.blocks.map rb),vI f.blocks.length,vI i,a19,a20,a21,a22,a23,a24,vL (b.ops.map ro),vI b.ops.length,vI k,a28,a29],sD f level succ pred tree D [.cells 0 5 [zw b]],3,5⟩ =
   some (match zgz i k D (b.ops.drop k) with
    | (D1,none) => (.exit 6,⟨[vU,.one (.ptr 3 0 0 0),vU,vU,vU,vU,vU,vU,vU,vU,vU,vU,vU,vU,vU,vU,vL (f.blocks.map rb),vI f.blocks.length,vI i,vU,vU,vU,vU,vU,vU,vU,vU,vU,vU,vU],sD f level succ pred tree D1 [.cells 0 5 [zw b]],3,5⟩)
    | (D1,some o) => (.ret,⟨[vU,vU,vI 7,vU,vU,vU,vU,vU,vU,vU,vU,vU,vU,vU,vU,vU,vU,vU,vU,vU,vU,vU,vU,vU,vU,vU,vU,vU,vU,vU],sD f level succ pred tree D1 [.cells 0 5 [zw b],.cells 0 6 [cOp o]],3,5⟩)):=by
 intro d
 induction d with
 | zero =>
   intro k D a0 a2 a3 a4 a6 a7 a8 a9 a10 a11 a12 a13 a14 a15 a19 a20 a21 a22 a23 a24 a28 a29 h1 h2
   have hk : k = b.ops.length:=by omega
   subst hk
   rw [xl zaq rfl,zbz]
   simp -implicitDefEqProofs only [go_sem,stD,yd,yc,zgz]
 | succ d ih =>
   intro k D a0 a2 a3 a4 a6 a7 a8 a9 a10 a11 a12 a13 a14 a15 a19 a20 a21 a22 a23 a24 a28 a29 h1 h2
   have hk : k < b.ops.length:=by omega
   have hd : b.ops.drop k = b.ops[k] :: b.ops.drop (k + 1):=yb hk
   have ho:=hb.op _ (yf hk)
   have hgv:=zmI b.ops[k] ho.1 ho.2
   have hp:=zot f level succ pred tree D [.cells 0 5 [zw b],.cells 0 6 [cOp b.ops[k]]] (by simp -implicitDefEqProofs only [go_sem]) b.ops[k].dst ⟨i,k,zY b.ops[k]⟩
   rw [xl zaq rfl,zbz,hd,zgz]
   simp -implicitDefEqProofs only [go_sem,stD,zfr] at hp hgv
   by_cases c1 : (zY b.ops[k]).1 ≤ 0
   ·have c1' : ¬ 0 < (zY b.ops[k]).1:=by omega
    have:=ih (k + 1) D vU vU vU vU vU vU vU vU vU vU vU vU vU vU vU vU vU vU vU vU vU vU (by omega) (by omega)
    simp -implicitDefEqProofs only [go_sem,stD] at this
    simp -implicitDefEqProofs only [go_sem,stD,ilt hk,zH hk,ro,hgv,c1,c1',zK,zd hk hb.ops,this]
   have c1' : 0 < (zY b.ops[k]).1:=by omega
   cases c3 : (getM b.ops[k].dst D).isNone
   ·rw [c3] at hp
    simp -implicitDefEqProofs only [go_sem,stD,ilt hk,zH hk,ro,hgv,c1,c1',hp]
   ·have:=ih (k + 1) (zh7 b.ops[k].dst ⟨i,k,zY b.ops[k]⟩ D) vU vU vU vU vU vU vU vU vU vU vU vU vU vU vU vU vU vU vU vU vU vU (by omega) (by omega)
    rw [c3] at hp
    simp -implicitDefEqProofs only [go_sem,stD] at this
    simp -implicitDefEqProofs only [go_sem,stD,ilt hk,zH hk,ro,hgv,c1,c1',hp,zK,zd hk hb.ops,this]
theorem ztH : ∀ (d k : Nat) (D : zhW) (a0 a2 a3 a4 a5 a6 a7 a8 a9 a10 a11 a12 a13 a14 a15 a19 a20 a21 a22 a23 a24 a25 a26 a27 a28 a29 : V),f.blocks.length - k = d → k ≤ f.blocks.length →
  exec T zau ⟨[a0,.one (.ptr 3 0 0 0),a2,a3,a4,a5,a6,a7,a8,a9,a10,a11,a12,a13,a14,a15,vL (f.blocks.map rb),vI f.blocks.length,vI k,a19,a20,a21,a22,a23,a24,a25,a26,a27,a28,a29],sD f level succ pred tree D [],3,5⟩ =
   some (match zcw k D (f.blocks.drop k) with
    | (D1,none) => (.exit 2,⟨[vU,.one (.ptr 3 0 0 0),vU,vU,vU,vU,vU,vU,vU,vU,vU,vU,vU,vU,vU,vU,vU,vU,vU,vU,vU,vU,vU,vU,vU,vU,vU,vU,vU,vU],sD f level succ pred tree D1 [],3,5⟩)
    | (D1,some G) => (.ret,⟨[vU,vU,vI 7,vU,vU,vU,vU,vU,vU,vU,vU,vU,vU,vU,vU,vU,vU,vU,vU,vU,vU,vU,vU,vU,vU,vU,vU,vU,vU,vU],sD f level succ pred tree D1 G,3,5⟩)):=by
 intro d
 induction d with
 | zero =>
   intro k D a0 a2 a3 a4 a5 a6 a7 a8 a9 a10 a11 a12 a13 a14 a15 a19 a20 a21 a22 a23 a24 a25 a26 a27 a28 a29 h1 h2
   have hk : k = f.blocks.length:=by omega
   subst hk
   rw [xl zau rfl,zbE]
   simp -implicitDefEqProofs only [go_sem,stD,yd,yc,zcw]
 | succ d ih =>
   intro k D a0 a2 a3 a4 a5 a6 a7 a8 a9 a10 a11 a12 a13 a14 a15 a19 a20 a21 a22 a23 a24 a25 a26 a27 a28 a29 h1 h2
   have hk : k < f.blocks.length:=by omega
   have hd : f.blocks.drop k = f.blocks[k] :: f.blocks.drop (k + 1):=yb hk
   have hb:=hf.block _ (yf hk)
   have q1:=fun a0 a2 a3 a4 a7 a8 a9 a10 a11 a12 a13 a14 a15 a19 a23 a24 a25 a26 a27 a28 a29 => zub f hf level succ pred tree f.blocks[k] hb k f.blocks[k].phis.length 0 D a0 a2 a3 a4 a7 a8 a9 a10 a11 a12 a13 a14 a15 a19 a23 a24 a25 a26 a27 a28 a29 (by omega) (by omega)
   simp only [yi,ye] at q1
   rw [xl zau rfl,zbE,hd,zcw]
   rcases e1 : zee k D f.blocks[k].phis with ⟨D1,_ | p⟩
   ·have q2:=fun a0 a2 a3 a4 a6 a7 a8 a9 a10 a11 a12 a13 a14 a15 a19 a20 a21 a22 a23 a24 a28 a29 => ztw f hf level succ pred tree f.blocks[k] hb k f.blocks[k].ops.length 0 D1 a0 a2 a3 a4 a6 a7 a8 a9 a10 a11 a12 a13 a14 a15 a19 a20 a21 a22 a23 a24 a28 a29 (by omega) (by omega)
    simp only [yi,ye] at q2
    rcases e2 : zgz k 0 D1 f.blocks[k].ops with ⟨D2,_ | o⟩
    ·have:=ih (k + 1) D2 vU vU vU vU vU vU vU vU vU vU vU vU vU vU vU vU vU vU vU vU vU vU vU vU vU vU (by omega) (by omega)
     simp -implicitDefEqProofs only [go_sem,stD,e1,e2] at q1 q2 this
     simp -implicitDefEqProofs only [go_sem,stD,ilt hk,zH hk,rb,q1,q2,e2,zK,zd hk hf.blocks,this]
    ·simp -implicitDefEqProofs only [go_sem,stD,e1,e2] at q1 q2
     simp -implicitDefEqProofs only [go_sem,stD,ilt hk,zH hk,rb,q1,q2,e2]
   ·simp -implicitDefEqProofs only [go_sem,stD,e1] at q1
    simp -implicitDefEqProofs only [go_sem,stD,ilt hk,zH hk,rb,q1]
end
end AC

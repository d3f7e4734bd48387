/- A part of the proof of SchedDepth. Conditions: none. -/
import Derived.Test.YtmkncmffaaninaaGreatDBG
import Derived.Test.YtmkncmffaaninaaGreatDAR
import Derived.Test.YtmkncmffaaninaaGreatDAT
import Derived.Test.YtmkncmffaaninaaGreatDAP
import Derived.Sort.Grow
import Derived.Lib.SlicesCompact
import Derived.Shelf.SlIterI.Sorted
import Derived.Shelf.SortM.Plain
import Derived.Shelf.SortM.SortNone
import Derived.Ground.GgzProg
import Derived.Ground.SlgmProg
import Derived.Test.YtmkncmffaaninaaGreatProg
import Derived.Shelf.SlicesG.CompactI
set_option linter.unusedVariables false
set_option linter.unusedSimpArgs false
set_option linter.unusedSectionVars false
open List renaming getElem?_eq_some_iff → ya,drop_eq_getElem_cons → yb,getElem?_eq_getElem → yc,getElem_mem → yd,getElem?_map → ye,length_cons → yh,drop_zero → yj,mem_cons_of_mem → yk,getD_eq_getElem?_getD → yl,mem_cons_self → yn,mem_cons → yq,map_cons → yr,length_map → yu,replicate → yv
open Array renaming getElem?_eq_some_iff → yf,getElem?_append_left → ym,getElem?_modify → yp
open Option renaming map_eq_some_iff → yg,bind_eq_some_iff → yo
open Int renaming lt_irrefl → yi
open Nat renaming le_refl → yt,zero_add → yw,add_zero → yx,mul_one → yy
namespace AC
open Go Go.A Go.A.Lex
def zza (out : List Int) : Prop:=∀ v ∈ out,0 ≤ v ∧ v ≤ (out.length : Int)
theorem zrD {out : List Int} (h : zza out) (j : Nat) : 0 ≤ out.getD j 0 ∧ out.getD j 0 ≤ (out.length : Int):=by
 rw [yl]
 cases e : out[j]? with
 | none => simp
 | some v => exact h v (List.mem_of_getElem? e)
theorem ztn {out : List Int} (h : zza out) (l : List Int) : 0 ≤ zaC out l ∧ zaC out l ≤ (out.length : Int) + 1:=by
 unfold zaC
 have h1:=zm0 (g:=fun k => out.getD k.toNat 0 + 1) l 0
 refine ⟨h1.1,?_⟩
 rcases zqA (g:=fun k => out.getD k.toNat 0 + 1) l 0 with e | ⟨k,_,e⟩
 ·rw [e]; omega
 ·rw [e]
  have:=(zrD h k.toNat).2
  omega
theorem zza.step {out : List Int} (h : zza out) (l : List Int) : zza (out ++ [zaC out l]):=fun v hv => by
 have:=ztn h l
 rw [List.length_append,List.length_singleton]
 rcases List.mem_append.1 hv with hv | hv
 ·have:=h v hv; omega
 ·rw [List.mem_singleton.1 hv]; omega
section
variable (f : PFunc) (on : List (List Int)) (hon : on.length ≤ 1000)
include hon
theorem zCg (i : Nat) (out : List Int) (ho : out.length ≤ 1000) (hL : zza out) (l : List Int) (hll : l.length ≤ 4294967296) (hl : ∀ k ∈ l,0 ≤ k ∧ k < (out.length : Int)) : ∀ (d j : Nat) (n : Int) (a0 a1 a2 a3 a5 a7 a8 a12 a16 : V),l.length - j = d → j ≤ l.length →
  exec T zfV ⟨[a0,a1,a2,a3,.one (.ap 1 0 (out.map ri)),a5,vI n,a7,a8,vLs on,vI on.length,vI i,a12,vIs l,vI l.length,vI j,a16],[.cells 0 3 [zcJ f],.tok 1 [out.length]],0,0⟩ =
   some (.exit 2,⟨[vU,vU,vU,vU,.one (.ap 1 0 (out.map ri)),vU,vI ((l.drop j).foldl (fun n k => max n (out.getD k.toNat 0 + 1)) n),vU,vU,vLs on,vI on.length,vI i,vU,vU,vU,vU,vU],[.cells 0 3 [zcJ f],.tok 1 [out.length]],0,0⟩):=by
 intro d
 induction d with
 | zero =>
   intro j n a0 a1 a2 a3 a5 a7 a8 a12 a16 h1 h2
   have hj : j = l.length:=by omega
   subst hj
   have e : l.drop l.length = []:=by simp
   rw [e,List.foldl_nil,xl zfV rfl,zhI]
   simp -implicitDefEqProofs only [go_sem,yi]
 | succ d ih =>
   intro j n a0 a1 a2 a3 a5 a7 a8 a12 a16 h1 h2
   have hj : j < l.length:=by omega
   have hdj : l.drop j = l[j] :: l.drop (j + 1):=yb hj
   obtain ⟨q1,q2⟩:=hl _ (yd hj)
   have hg:=zrD hL l[j].toNat
   have hw : Go.IntKind.i64.wrap (out.getD l[j].toNat 0 + 1) = out.getD l[j].toNat 0 + 1:=by rw [wrap_i64] <;> omega
   have ho' : out[l[j].toNat]? = some (out.getD l[j].toNat 0):=by rw [yl,yc (by omega)]; rfl
   have:=ih (j + 1) (max n (out.getD l[j].toNat 0 + 1)) vU vU vU vU vU vU vU vU vU (by omega) (by omega)
   rw [hdj,List.foldl_cons,xl zfV rfl,zhI]
   simp -implicitDefEqProofs only [go_sem] at this
   simp -implicitDefEqProofs only [go_sem,ilt hj,zp hj,ri,q1,ho',ye,hw,za hj hll,this]
theorem zBM (hl : ∀ (i : Nat) (l : List Int),on[i]? = some l → l.length ≤ 4294967296 ∧ ∀ k ∈ l,0 ≤ k ∧ k < (i : Int)) : ∀ (d i : Nat) (out : List Int) (a0 a1 a2 a3 a5 a6 a7 a8 a12 a13 a14 a15 a16 : V),on.length - i = d → i ≤ on.length → out.length = i → zza out →
  exec T zfT ⟨[a0,a1,a2,a3,.one (.ap 1 0 (out.map ri)),a5,a6,a7,a8,vLs on,vI on.length,vI i,a12,a13,a14,a15,a16],[.cells 0 3 [zcJ f],.tok 1 [out.length]],0,0⟩ =
   some (.exit 0,⟨[vU,vU,vU,vU,.one (.ap 1 0 ((zc2 out (on.drop i)).map ri)),vU,vU,vU,vU,vU,vU,vU,vU,vU,vU,vU,vU],[.cells 0 3 [zcJ f],.tok 1 [(zc2 out (on.drop i)).length]],0,0⟩):=by
 intro d
 induction d with
 | zero =>
   intro i out a0 a1 a2 a3 a5 a6 a7 a8 a12 a13 a14 a15 a16 h1 h2 h3 h4
   have hi : i = on.length:=by omega
   subst hi
   have e : on.drop on.length = []:=by simp
   rw [e,zc2,xl zfT rfl,zhS]
   simp -implicitDefEqProofs only [go_sem,yi]
 | succ d ih =>
   intro i out a0 a1 a2 a3 a5 a6 a7 a8 a12 a13 a14 a15 a16 h1 h2 h3 h4
   have hi : i < on.length:=by omega
   have hdi : on.drop i = on[i] :: on.drop (i + 1):=yb hi
   obtain ⟨q1,q2⟩:=hl i on[i] (yc hi)
   have h0:=fun a0 a1 a2 a3 a5 a7 a8 a12 a16 => zCg f on hon i out (by omega) h4 on[i] q1 (by rw [h3]; exact q2) on[i].length 0 0 a0 a1 a2 a3 a5 a7 a8 a12 a16 (by omega) (by omega)
   rw [yj] at h0
   have eR : on[i].foldl (fun n k => max n (out.getD k.toNat 0 + 1)) 0 = zaC out on[i]:=rfl
   rw [eR] at h0
   have hlim : out.length + 1 ≤ LIM:=by unfold LIM; omega
   have he : out.map ri ++ [[.lit (.int .i64 (zaC out on[i]))]] = (out ++ [zaC out on[i]]).map ri:=by simp [ri,ei]
   have hll : (out ++ [zaC out on[i]]).length = out.length + 1:=by simp
   have:=ih (i + 1) (out ++ [zaC out on[i]]) vU vU vU vU vU vU vU vU vU vU vU vU vU (by omega) (by omega) (by simp [h3]) (h4.step _)
   rw [hdi,zc2,xl zfT rfl,zhS]
   rw [hll] at this
   simp only [← he] at this
   simp -implicitDefEqProofs only [go_sem] at this h0
   simp -implicitDefEqProofs only [go_sem,ilt hi,zp hi,rl,h0,hlim,yu,za hi (show on.length ≤ 4294967296 by omega),this]
end
def zpn (f : PFunc) (k : Int) : List Int:=if zge f k = true then (match f.blocks[k.toNat]? with | some b => zfz b | none => []) else []
theorem znU (f : PFunc) (hf : okF f) (k : Int) : call T 27 [zgS f,vI k] [] = some (vIs (zpn f k),[]):=by
 rw [ze (fn:=zgu) rfl]
 have hr:=zi0 f hf k
 cases e : zge f k with
 | false =>
   have eF : zpn f k = []:=by unfold zpn; rw [e,if_neg Bool.false_ne_true]
   rw [e] at hr
   simp -implicitDefEqProofs only [go_sem] at hr
   simp -implicitDefEqProofs only [go_sem,zgu,hr,eF]
 | true =>
   obtain ⟨q1,q2,q3⟩:=zk7.1 e
   have hk : k.toNat < f.blocks.length:=by omega
   have hb : f.blocks[k.toNat]? = some f.blocks[k.toNat]:=yc hk
   have hm:=yd hk
   have eF : zpn f k = zfz f.blocks[k.toNat]:=by unfold zpn; rw [if_pos e,hb]
   have h1:=q3.oneDef hm
   have hsz:=q3.size hm
   have hc:=zqn f.blocks[k.toNat] (hf.block _ hm) hsz.2 _ rfl hsz.1
   have hlen:=zlz f.blocks[k.toNat]
   have h:=fun a0 a1 a2 a3 a5 a6 a7 a8 a12 a13 a14 a15 a16 => zBM f (zfA f.blocks[k.toNat]) (by omega) (fun i l hl => by
    rw [zrw h1,ye] at hl
    cases c : (List.range f.blocks[k.toNat].ops.length)[i]? with
    | none => rw [c] at hl; cases hl
    | some j =>
      rw [c] at hl
      simp only [Option.map_some,Option.some.injEq] at hl
      subst hl
      have hj : j = i:=by
       have:=(ya.1 c).2
       simpa using this.symm
      subst hj
      have hj2 : j < f.blocks[k.toNat].ops.length:=by simpa using (ya.1 c).1
      exact ⟨by have:=znr f.blocks[k.toNat].ops j; omega,fun x hx => zrh hx⟩) (zfA f.blocks[k.toNat]).length 0 [] a0 a1 a2 a3 a5 a6 a7 a8 a12 a13 a14 a15 a16 (by omega) (by omega) rfl (fun v hv => by simp at hv)
   rw [yj] at h
   have eD : zc2 [] (zfA f.blocks[k.toNat]) = zfz f.blocks[k.toNat]:=rfl
   rw [eD] at h
   rw [e] at hr
   simp -implicitDefEqProofs only [go_sem] at hr hc h
   simp -implicitDefEqProofs only [go_sem,zgu,hr,hc,h,q1,zp hk,rb,ye,hb,eF]
end AC
namespace AC
open Go Go.A
def LB : Nat:=140737488351232
structure anyB (b : PBlock) : Prop where
 phis : b.phis.length ≤ LB
 ops : b.ops.length ≤ LB
 phi : ∀ p ∈ b.phis,p.src.length ≤ LB ∧ p.args.length ≤ LB
 op : ∀ o ∈ b.ops,(0 ≤ o.imm ∧ o.imm < 18446744073709551616) ∧ o.args.length ≤ LB
 to : b.to.length ≤ LB
structure anyF (f : PFunc) : Prop where
 params : f.params.length ≤ LB
 blocks : f.blocks.length ≤ LB
 block : ∀ b ∈ f.blocks,anyB b
theorem zuZ {n : Nat} (h : n ≤ 9223372036854775807) : Go.IntKind.i64.wrap (n : Int) = (n : Int):=wrap_i64 (by omega) (by omega)
theorem zj1 {k n : Nat} (h : k < n) (h' : n ≤ LB) : Go.IntKind.i64.wrap ((k : Int) + 1) = ((k + 1 : Nat) : Int):=by
 unfold LB at h'
 rw [wrap_i64] <;> omega
end AC
namespace AC
open Go Go.A Go.A.Lex
def zvf : Nat → List PPhi → Nat
 | n,[] => n
 | n,p :: r => if n ≤ 20000 then zvf (n + 1 + p.src.length + p.args.length) r else n
def zxF : Nat → List POp → Nat
 | n,[] => n
 | n,o :: r => if n ≤ 20000 then zxF (n + 1 + o.args.length) r else n
def zxC : Nat → List PBlock → Nat
 | n,[] => n
 | n,b :: r => if n ≤ 20000 then zxC (zxF (zvf (n + 1 + b.to.length) b.phis) b.ops) r else n
def zqR (f : PFunc) : Bool:=decide (zxC f.params.length f.blocks ≤ 20000)
theorem zy5 (hL : LB = 140737488351232) : ∀ (l : List PPhi) (n : Nat),(∀ p ∈ l,p.src.length ≤ LB ∧ p.args.length ≤ LB) → n ≤ 500000000000000 → zvf n l ≤ 500000000000000
 | [],n,_,h => h
 | p :: l,n,hp,h => by
   have:=hp p yn
   rw [zvf]
   split
   ·exact zy5 hL l _ (fun q hq => hp q (yk _ hq)) (by omega)
   ·exact h
theorem zyD (hL : LB = 140737488351232) : ∀ (l : List POp) (n : Nat),(∀ p ∈ l,p.args.length ≤ LB) → n ≤ 500000000000000 → zxF n l ≤ 500000000000000
 | [],n,_,h => h
 | p :: l,n,hp,h => by
   have:=hp p yn
   rw [zxF]
   split
   ·exact zyD hL l _ (fun q hq => hp q (yk _ hq)) (by omega)
   ·exact h
section
variable (f : PFunc) (hf : anyF f)
include hf
theorem zFA (i : Nat) (hi : i < f.blocks.length) : ∀ (d k n : Nat) (a0 a2 a6 a7 a8 a9 : V),f.blocks[i].phis.length - k = d → k ≤ f.blocks[i].phis.length → n ≤ 1000000000000000 →
  exec T zbt ⟨[a0,.one (.ptr 0 0 0 0),a2,vI (n : Int),vI i,vI k,a6,a7,a8,a9],[.cells 0 3 [zcJ f]],0,0⟩ =
   some (.exit 2,⟨[vU,.one (.ptr 0 0 0 0),vU,vI (zvf n (f.blocks[i].phis.drop k) : Nat),vI i,vU,vU,vU,vU,vU],[.cells 0 3 [zcJ f]],0,0⟩):=by
 have hb:=hf.block _ (yd hi)
 intro d
 induction d with
 | zero =>
   intro k n a0 a2 a6 a7 a8 a9 h1 h2 h3
   have hk : k = f.blocks[i].phis.length:=by omega
   subst hk
   have e : f.blocks[i].phis.drop f.blocks[i].phis.length = []:=by simp
   rw [xl zbt rfl,zdI,e,zvf]
   simp -implicitDefEqProofs only [go_sem,zp hi,rb,yi]
 | succ d ih =>
   intro k n a0 a2 a6 a7 a8 a9 h1 h2 h3
   have hk : k < f.blocks[i].phis.length:=by omega
   have hdk : f.blocks[i].phis.drop k = f.blocks[i].phis[k] :: f.blocks[i].phis.drop (k + 1):=yb hk
   have hp:=hb.phi _ (yd hk)
   have hL : LB = 140737488351232:=rfl
   rw [xl zbt rfl,zdI,hdk,zvf]
   by_cases c : n ≤ 20000
   ·have c' : ((n : Nat) : Int) ≤ 20000:=by omega
    have w1 : Go.IntKind.i64.wrap ((n : Int) + 1) = ((n + 1 : Nat) : Int):=zuZ (n:=n + 1) (by omega)
    have w2 : Go.IntKind.i64.wrap (((n + 1 : Nat) : Int) + (f.blocks[i].phis[k].src.length : Int)) = ((n + 1 + f.blocks[i].phis[k].src.length : Nat) : Int):=zuZ (n:=n + 1 + f.blocks[i].phis[k].src.length) (by omega)
    have w3 : Go.IntKind.i64.wrap (((n + 1 + f.blocks[i].phis[k].src.length : Nat) : Int) + (f.blocks[i].phis[k].args.length : Int)) = ((n + 1 + f.blocks[i].phis[k].src.length + f.blocks[i].phis[k].args.length : Nat) : Int):=zuZ (n:=n + 1 + f.blocks[i].phis[k].src.length + f.blocks[i].phis[k].args.length) (by omega)
    have:=ih (k + 1) (n + 1 + f.blocks[i].phis[k].src.length + f.blocks[i].phis[k].args.length) vU vU vU vU vU vU (by omega) (by omega) (by omega)
    rw [if_pos c]
    simp -implicitDefEqProofs only [go_sem] at this
    simp -implicitDefEqProofs only [go_sem,ilt hk,zp hi,zp hk,rb,rp,c',w1,w2,w3,zj1 hk hb.phis,this]
   ·have c' : ¬ ((n : Nat) : Int) ≤ 20000:=by omega
    rw [if_neg c]
    simp -implicitDefEqProofs only [go_sem,ilt hk,zp hi,rb,c']
theorem zFf (i : Nat) (hi : i < f.blocks.length) : ∀ (d k n : Nat) (a0 a2 a5 a7 a8 a9 : V),f.blocks[i].ops.length - k = d → k ≤ f.blocks[i].ops.length → n ≤ 1000000000000000 →
  exec T zbE ⟨[a0,.one (.ptr 0 0 0 0),a2,vI (n : Int),vI i,a5,vI k,a7,a8,a9],[.cells 0 3 [zcJ f]],0,0⟩ =
   some (.exit 4,⟨[vU,.one (.ptr 0 0 0 0),vU,vI (zxF n (f.blocks[i].ops.drop k) : Nat),vI i,vU,vU,vU,vU,vU],[.cells 0 3 [zcJ f]],0,0⟩):=by
 have hb:=hf.block _ (yd hi)
 intro d
 induction d with
 | zero =>
   intro k n a0 a2 a5 a7 a8 a9 h1 h2 h3
   have hk : k = f.blocks[i].ops.length:=by omega
   subst hk
   have e : f.blocks[i].ops.drop f.blocks[i].ops.length = []:=by simp
   rw [xl zbE rfl,zdE,e,zxF]
   simp -implicitDefEqProofs only [go_sem,zp hi,rb,yi]
 | succ d ih =>
   intro k n a0 a2 a5 a7 a8 a9 h1 h2 h3
   have hk : k < f.blocks[i].ops.length:=by omega
   have hdk : f.blocks[i].ops.drop k = f.blocks[i].ops[k] :: f.blocks[i].ops.drop (k + 1):=yb hk
   have hp:=hb.op _ (yd hk)
   have hL : LB = 140737488351232:=rfl
   rw [xl zbE rfl,zdE,hdk,zxF]
   by_cases c : n ≤ 20000
   ·have c' : ((n : Nat) : Int) ≤ 20000:=by omega
    have w1 : Go.IntKind.i64.wrap ((n : Int) + 1) = ((n + 1 : Nat) : Int):=zuZ (n:=n + 1) (by omega)
    have w2 : Go.IntKind.i64.wrap (((n + 1 : Nat) : Int) + (f.blocks[i].ops[k].args.length : Int)) = ((n + 1 + f.blocks[i].ops[k].args.length : Nat) : Int):=zuZ (n:=n + 1 + f.blocks[i].ops[k].args.length) (by omega)
    have:=ih (k + 1) (n + 1 + f.blocks[i].ops[k].args.length) vU vU vU vU vU vU (by omega) (by omega) (by omega)
    rw [if_pos c]
    simp -implicitDefEqProofs only [go_sem] at this
    simp -implicitDefEqProofs only [go_sem,ilt hk,zp hi,zp hk,rb,ro,c',w1,w2,zj1 hk hb.ops,this]
   ·have c' : ¬ ((n : Nat) : Int) ≤ 20000:=by omega
    rw [if_neg c]
    simp -implicitDefEqProofs only [go_sem,ilt hk,zp hi,rb,c']
theorem zFs : ∀ (d k n : Nat) (a0 a2 a5 a6 a7 a8 a9 : V),f.blocks.length - k = d → k ≤ f.blocks.length → n ≤ 500000000000000 →
  exec T zbv ⟨[a0,.one (.ptr 0 0 0 0),a2,vI (n : Int),vI k,a5,a6,a7,a8,a9],[.cells 0 3 [zcJ f]],0,0⟩ =
   some (.exit 0,⟨[vU,vU,vU,vI (zxC n (f.blocks.drop k) : Nat),vU,vU,vU,vU,vU,vU],[.cells 0 3 [zcJ f]],0,0⟩):=by
 have hL : LB = 140737488351232:=rfl
 intro d
 induction d with
 | zero =>
   intro k n a0 a2 a5 a6 a7 a8 a9 h1 h2 h3
   have hk : k = f.blocks.length:=by omega
   subst hk
   have e : f.blocks.drop f.blocks.length = []:=by simp
   rw [xl zbv rfl,zdL,e,zxC]
   simp -implicitDefEqProofs only [go_sem,yi]
 | succ d ih =>
   intro k n a0 a2 a5 a6 a7 a8 a9 h1 h2 h3
   have hk : k < f.blocks.length:=by omega
   have hdk : f.blocks.drop k = f.blocks[k] :: f.blocks.drop (k + 1):=yb hk
   have hb:=hf.block _ (yd hk)
   have hto:=hb.to
   rw [xl zbv rfl,zdL,hdk,zxC]
   by_cases c : n ≤ 20000
   ·have c' : ((n : Nat) : Int) ≤ 20000:=by omega
    have w1 : Go.IntKind.i64.wrap ((n : Int) + 1) = ((n + 1 : Nat) : Int):=zuZ (n:=n + 1) (by omega)
    have w2 : Go.IntKind.i64.wrap (((n + 1 : Nat) : Int) + (f.blocks[k].to.length : Int)) = ((n + 1 + f.blocks[k].to.length : Nat) : Int):=zuZ (n:=n + 1 + f.blocks[k].to.length) (by omega)
    have b1:=zy5 hL f.blocks[k].phis (n + 1 + f.blocks[k].to.length) hb.phi (by omega)
    have b2:=zyD hL f.blocks[k].ops _ (fun o ho => (hb.op o ho).2) b1
    have p1:=fun a0 a2 a6 a7 a8 a9 => zFA f hf k hk f.blocks[k].phis.length 0 (n + 1 + f.blocks[k].to.length) a0 a2 a6 a7 a8 a9 (by omega) (by omega) (by omega)
    have p2:=fun a0 a2 a5 a7 a8 a9 => zFf f hf k hk f.blocks[k].ops.length 0 (zvf (n + 1 + f.blocks[k].to.length) f.blocks[k].phis) a0 a2 a5 a7 a8 a9 (by omega) (by omega) (by omega)
    have:=ih (k + 1) (zxF (zvf (n + 1 + f.blocks[k].to.length) f.blocks[k].phis) f.blocks[k].ops) vU vU vU vU vU vU vU (by omega) (by omega) b2
    rw [if_pos c]
    rw [yj] at p1 p2
    simp -implicitDefEqProofs only [go_sem] at this p1 p2
    simp -implicitDefEqProofs only [go_sem,ilt hk,zp hk,rb,c',w1,w2,p1,p2,zj1 hk hf.blocks,this]
   ·have c' : ¬ ((n : Nat) : Int) ≤ 20000:=by omega
    rw [if_neg c]
    simp -implicitDefEqProofs only [go_sem,ilt hk,c']
theorem zrR : call T 61 [zgS f] [] = some (vB (zqR f),[]):=by
 have hL : LB = 140737488351232:=rfl
 have hp:=hf.params
 rw [ze (fn:=zb6) rfl]
 have h:=fun a0 a2 a5 a6 a7 a8 a9 => zFs f hf f.blocks.length 0 f.params.length a0 a2 a5 a6 a7 a8 a9 (by omega) (by omega) (by omega)
 rw [yj] at h
 simp -implicitDefEqProofs only [go_sem] at h
 unfold zqR
 by_cases c : zxC f.params.length f.blocks ≤ 20000
 ·have c' : ((zxC f.params.length f.blocks : Nat) : Int) ≤ 20000:=by omega
  simp -implicitDefEqProofs only [go_sem,zb6,h,c,c']
 ·have c' : ¬ ((zxC f.params.length f.blocks : Nat) : Int) ≤ 20000:=by omega
  simp -implicitDefEqProofs only [go_sem,zb6,h,c,c']
theorem zEi : ∀ (d k : Nat) (n : Int),f.blocks.length - k = d → k ≤ f.blocks.length →
  ∃ m : Int,∀ (a0 a2 a5 : V),exec T zbN ⟨[a0,.one (.ptr 0 0 0 0),a2,vI n,vI k,a5],[.cells 0 3 [zcJ f]],0,0⟩ =
    some (.exit 0,⟨[vU,.one (.ptr 0 0 0 0),vU,vI m,vU,vU],[.cells 0 3 [zcJ f]],0,0⟩):=by
 have hL : LB = 140737488351232:=rfl
 intro d
 induction d with
 | zero =>
   intro k n h1 h2
   have hk : k = f.blocks.length:=by omega
   subst hk
   refine ⟨n,fun a0 a2 a5 => ?_⟩
   rw [xl zbN rfl,zdM]
   simp -implicitDefEqProofs only [go_sem,yi]
 | succ d ih =>
   intro k n h1 h2
   have hk : k < f.blocks.length:=by omega
   obtain ⟨m,hm⟩:=ih (k + 1) (Go.IntKind.i64.wrap (Go.IntKind.i64.wrap (Go.IntKind.i64.wrap (n + 1) + (f.blocks[k].ops.length : Int)) + (f.blocks[k].phis.length : Int))) (by omega) (by omega)
   refine ⟨m,fun a0 a2 a5 => ?_⟩
   have:=hm vU vU vU
   rw [xl zbN rfl,zdM]
   simp -implicitDefEqProofs only [go_sem] at this
   simp -implicitDefEqProofs only [go_sem,ilt hk,zp hk,rb,zj1 hk hf.blocks,this]
theorem zsi : ∃ b : Bool,call T 16 [zgS f] [] = some (vB b,[]) ∧ (b = true → zqR f = true):=by
 obtain ⟨m,hm⟩:=zEi f hf f.blocks.length 0 0 (by omega) (by omega)
 have hs:=zrR f hf
 rw [ze (fn:=zB) rfl]
 simp -implicitDefEqProofs only [go_sem] at hm hs
 cases c : zqR f
 ·refine ⟨false,?_,fun h => by cases h⟩
  rw [c] at hs
  simp -implicitDefEqProofs only [go_sem,zB,hm,hs]
 ·rw [c] at hs
  by_cases c1 : (f.blocks.length : Int) ≤ 16
  ·have c2' : ¬ (64 : Int) < (f.blocks.length : Int):=by omega
   by_cases c3 : m ≤ 100
   ·refine ⟨true,?_,fun _ => rfl⟩
    simp -implicitDefEqProofs only [go_sem,zB,hm,hs,c1,c3]
   ·by_cases c4 : 512 < m
    ·refine ⟨true,?_,fun _ => rfl⟩
     simp -implicitDefEqProofs only [go_sem,zB,hm,hs,c1,c2',c3,c4]
    ·refine ⟨false,?_,fun h => by cases h⟩
     simp -implicitDefEqProofs only [go_sem,zB,hm,hs,c1,c2',c3,c4]
  ·by_cases c2 : (64 : Int) < (f.blocks.length : Int)
   ·refine ⟨true,?_,fun _ => rfl⟩
    simp -implicitDefEqProofs only [go_sem,zB,hm,hs,c1,c2]
   ·by_cases c4 : 512 < m
    ·refine ⟨true,?_,fun _ => rfl⟩
     simp -implicitDefEqProofs only [go_sem,zB,hm,hs,c1,c2,c4]
    ·refine ⟨false,?_,fun h => by cases h⟩
     simp -implicitDefEqProofs only [go_sem,zB,hm,hs,c1,c2,c4]
end
theorem zzQ : ∀ (l : List PPhi) (n : Nat),zvf n l ≤ 20000 → n + l.length ≤ zvf n l ∧ ∀ p ∈ l,p.src.length ≤ 20000 ∧ p.args.length ≤ 20000
 | [],n,_ => ⟨yt _,fun _ h => by simp at h⟩
 | p :: l,n,h => by
   rw [zvf] at h ⊢
   split at h
   ·rename_i c
    obtain ⟨h1,h2⟩:=zzQ l _ h
    rw [if_pos c]
    refine ⟨by simp only [yh]; omega,fun q hq => ?_⟩
    rcases yq.1 hq with rfl | hq
    ·omega
    ·exact h2 q hq
   ·omega
theorem zzp : ∀ (l : List POp) (n : Nat),zxF n l ≤ 20000 → n + l.length ≤ zxF n l ∧ ∀ p ∈ l,p.args.length ≤ 20000
 | [],n,_ => ⟨yt _,fun _ h => by simp at h⟩
 | p :: l,n,h => by
   rw [zxF] at h ⊢
   split at h
   ·rename_i c
    obtain ⟨h1,h2⟩:=zzp l _ h
    rw [if_pos c]
    refine ⟨by simp only [yh]; omega,fun q hq => ?_⟩
    rcases yq.1 hq with rfl | hq
    ·omega
    ·exact h2 q hq
   ·omega
theorem zzg : ∀ (l : List PBlock) (n : Nat),(∀ b ∈ l,anyB b) → zxC n l ≤ 20000 → n + l.length + (l.map fun b => b.phis.length + b.ops.length).sum ≤ zxC n l ∧ ∀ b ∈ l,okB b
 | [],n,_,_ => ⟨by simp [zxC],fun _ h => by simp at h⟩
 | b :: l,n,ha,h => by
   rw [zxC] at h ⊢
   split at h
   ·rename_i c
    obtain ⟨h1,h2⟩:=zzg l _ (fun x hx => ha x (yk _ hx)) h
    rw [if_pos c]
    obtain ⟨o1,o2⟩:=zzp b.ops _ (show zxF (zvf (n + 1 + b.to.length) b.phis) b.ops ≤ 20000 by omega)
    obtain ⟨p1,p2⟩:=zzQ b.phis _ (show zvf (n + 1 + b.to.length) b.phis ≤ 20000 by omega)
    refine ⟨by simp only [yh,yr,List.sum_cons]; omega,fun q hq => ?_⟩
    rcases yq.1 hq with rfl | hq
    ·have hb:=ha q yn
     exact ⟨by omega,by omega,fun p hp => by have:=p2 p hp; exact ⟨by omega,by omega⟩,fun o ho => ⟨(hb.op o ho).1,by have:=o2 o ho; omega⟩,by omega⟩
    ·exact h2 q hq
   ·omega
theorem zAS {f : PFunc} (hf : anyF f) (h : zqR f = true) : okF f:=by
 unfold zqR at h
 rw [decide_eq_true_eq] at h
 obtain ⟨h1,h2⟩:=zzg f.blocks _ hf.block h
 exact ⟨by omega,by omega,h2,by omega⟩
end AC
namespace Go.A
open Go.Sort
theorem zBZ {c : C} {v : Value} (h : zux c = some (.lit v)) : c = .f (.lit v):=by
 cases c <;> simp only [zux] at h <;> first | (injection h with h; injection h) | (injection h with h; rw [h]) | cases h
theorem ztK : ∀ {es : List (List C)} {l : List Int},(zaq es).bind zga = some l → es = l.map zj
 | [],l,h => by simp [zaq,zga] at h; subst h; rfl
 | e :: es,l,h => by
   simp only [zaq] at h
   unfold zfE at h
   split at h
   ·rename_i x xs h1 h2
    simp only [Option.bind_some,zga] at h
    unfold zfE at h
    split at h
    ·rename_i y ys k1 k2
     injection h with h
     subst h
     have ih:=ztK (es:=es) (l:=ys) (by rw [h2]; exact k2)
     subst ih
     have : e = zj y:=by
      unfold zvt at k1
      split at k1
      ·rename_i z
       injection k1 with k1
       subst k1
       cases e with
       | nil => simp [zdl] at h1
       | cons c cs =>
         simp only [zdl] at h1
         unfold zfE at h1
         split at h1
         ·rename_i a0 bs q1 q2
          injection h1 with h1
          injection h1 with h3 h4
          subst h3 h4
          cases cs with
          | nil => rw [zBZ q1]; rfl
          | cons c2 cs =>
            simp only [zdl] at q2
            unfold zfE at q2
            split at q2
            ·cases q2
            ·cases q2
         ·cases h1
      ·cases k1
     rw [this]
     rfl
    ·cases h
   ·simp at h
theorem znA {ver n : Nat} {o : Ob} {l : List Int} (h : zhE ver n o = some l) : o = .cells ver 1 (l.map zj) ∧ l.length = n ∧ n ≤ LIM:=by
 cases o with
 | tok _ _ => simp [zhE] at h
 | mp _ => simp [zhE] at h
 | cells ver' sz es =>
   simp only [zhE] at h
   split at h
   ·rename_i hc
    obtain ⟨rfl,rfl,h3,h4⟩:=hc
    have:=ztK h
    subst this
    exact ⟨rfl,by simpa using h3,h4⟩
   ·cases h
section
variable {g : G} {w : World} {σ : zd}
theorem zvx (R : Rel g w σ) {id ver : Nat} {l : List Int} (hid : σ[id]? = some (.cells ver 1 (l.map zj))) (hl : l ≠ []) {u : Value} (hv : zf g w σ (.one (.own id ver 0 l.length)) u) :
  ∃ c arr t,u = .slice (some ⟨g.ρ id,0,none⟩) l.length c ∧ l.length ≤ c ∧ w.heap[g.ρ id]? = some (.cells arr t (0,0)) ∧ l.length ≤ arr.size ∧ (∀ (j : Nat) x,l[j]? = some x → arr[j]? = some (.int .i64 x)) ∧ g.ow (g.ρ id) = .ob id ∧ ∀ o,¬ g.N (g.ρ id) o:=by
 obtain ⟨a,c,e1,e2,e3,e4⟩:=zfY hv hid
 have hne : l.map zj ≠ []:=by simpa using hl
 obtain ⟨k1,k2,arr,t,k3,k4,k5⟩:=R.ob id _ hid hne
 have hpos : 0 < l.length:=List.length_pos_iff.2 hl
 obtain ⟨_,f2,_⟩:=e4 (by simp; omega)
 have ha:=f2 (by omega)
 refine ⟨c,arr,t,(by rw [e1,ha]; try simp),e2,k3,by simpa using k4,fun j x hj => ?_,k1,k2⟩
 obtain ⟨_,h2⟩:=k5 j (zj x) (by simp [hj])
 obtain ⟨v,q1,q2,_⟩:=h2 0 (.f (.lit (.int .i64 x))) (by simp [zj])
 simp only [zw,rep] at q2
 rw [← q2.1]
 simpa using q1
theorem ztq (R : Rel g w σ) {l : List Int} {b : Nat} {arr : Array Value} {t : TypeId} (h : w.heap[b]? = some (.cells arr t (0,0))) (h2 : ∀ (j : Nat) x,l[j]? = some x → arr[j]? = some (.int .i64 x)) : Holds (Value.int .i64) w b 0 l.toArray:=fun j hj => by
 have hj' : j < l.length:=by simpa using hj
 refine ⟨?_,by simp [World.frozen?,h]⟩
 rw [zgX h,yw,h2 j l[j] (by simp [hj'])]
 simp [hj']
theorem zrN {q : Nat} {b : Nat} {d : Array Int} {os : Array Obj} {arr : Array Value} {t : TypeId} (h : w.heap[b]? = some (.cells arr t (0,0))) :
  (grow (putRow (Value.int .i64) (Sort.ahead w q) b 0 d) os).heap[b]? = some (.cells (putCells (Value.int .i64) 0 d arr) t (0,0)):=by
 have hb : b < w.heap.size:=(yf.1 h).1
 simp only [grow,putRow,mapBlock,Sort.ahead]
 rw [ym (by simpa using hb),yp,if_pos rfl,h]
 rfl
theorem zqi {q : Nat} {b j : Nat} {d : Array Int} {os : Array Obj} (hj : j < w.heap.size) (hne : j ≠ b) :
  (grow (putRow (Value.int .i64) (Sort.ahead w q) b 0 d) os).heap[j]? = w.heap[j]?:=by
 simp only [grow,putRow,mapBlock,Sort.ahead]
 rw [ym (by simpa using hj),yp,if_neg (Ne.symm hne)]
theorem zix (d : Array Int) (arr : Array Value) : (putCells (Value.int .i64) 0 d arr).size = arr.size:=by simp [putCells]
theorem znI {d : Array Int} {arr : Array Value} {j : Nat} (hj : j < d.size) (hd : d.size ≤ arr.size) : (putCells (Value.int .i64) 0 d arr)[j]? = some (.int .i64 d[j]):=by
 have h1 : j < arr.size:=by omega
 have h2 : j < (putCells (Value.int .i64) 0 d arr).size:=by rw [zix]; exact h1
 rw [Array.getElem?_eq_getElem h2]
 simp [putCells,hj]
theorem zDl (R : Rel g w σ) {id ver : Nat} {l : List Int} (hid : σ[id]? = some (.cells ver 1 (l.map zj))) {l' : List Int} (hl' : l'.length = l.length) {arr : Array Value} {t : TypeId}
  (hh : w.heap[g.ρ id]? = some (.cells arr t (0,0))) (hsz : l.length ≤ arr.size) (how : g.ow (g.ρ id) = .ob id) (hN : ∀ o,¬ g.N (g.ρ id) o) (q : Nat) (os : Array Obj) :
  Ext g w σ g (grow (putRow (Value.int .i64) (Sort.ahead w q) (g.ρ id) 0 l'.toArray) os) (σ.set id (.cells ver 1 (l'.map zj))) ∧
  Rel g (grow (putRow (Value.int .i64) (Sort.ahead w q) (g.ρ id) 0 l'.toArray) os) (σ.set id (.cells ver 1 (l'.map zj))):=by
 refine replace (g':=g) R hid (fun b => b = g.ρ id) rfl rfl rfl (by simp [grow,Sort.ahead]) (fun b hb ht => ⟨zqi hb ht,rfl,fun _ h => h⟩)
  (fun b hb => ⟨.inl (by rw [hb]; exact how),rfl,fun o h => absurd (by rw [hb] at h; exact h) (hN o)⟩) (fun _ _ _ h => h) (fun _ _ => rfl) (fun _ _ _ => rfl)
  (fun b o h => by have:=R.nb b o h; simp [grow,Sort.ahead]; omega) ?_ ?_ ?_ (fun _ _ h => by cases h) ?_
 ·intro ver' sz' len' hs
  refine .inl ⟨?_,rfl,fun _ arr0 t0 h0 => ?_⟩
  ·rw [zn hid] at hs
   injection hs with hs
   rw [zn (zx hid),← hs]
   simp [hl']
  ·rw [hh] at h0
   injection h0 with h0
   injection h0 with h0 h0t
   subst h0
   subst h0t
   exact ⟨_,zrN hh,zix _ _⟩
 ·intro es' h; cases h
 ·intro k n h; simp [zlw,hid,Ob.fr] at h
 ·intro H hne'
  refine ⟨how,hN,_,t,zrN hh,by rw [zix]; simp [hl']; omega,fun i e he => ?_⟩
  rw [ye,yg] at he
  obtain ⟨x,hx,rfl⟩:=he
  refine ⟨rfl,fun j c hc => ?_⟩
  have hi : i < l'.length:=(ya.1 hx).1
  cases j with
  | succ j => simp [zj] at hc
  | zero =>
    simp [zj] at hc
    subst hc
    refine ⟨.int .i64 x,?_,by simp [zw,rep,zxA],rfl⟩
    rw [yy,yx,znI (by simpa using hi) (by simp; omega)]
    have:=(ya.1 hx).2
    simp [this]
theorem zCf (R : Rel g w σ) {id ver : Nat} {l : List Int} (hid : σ[id]? = some (.cells ver 1 (l.map zj))) {d : Array Int} {arr : Array Value} {t : TypeId}
  (hh : w.heap[g.ρ id]? = some (.cells arr t (0,0))) (how : g.ow (g.ρ id) = .ob id) (hN : ∀ o,¬ g.N (g.ρ id) o) (q : Nat) (os : Array Obj) :
  Ext g w σ (g.give (g.ρ id)) (grow (putRow (Value.int .i64) (Sort.ahead w q) (g.ρ id) 0 d) os) (σ.set id (.cells (ver + 1) 1 [])) ∧
  Rel (g.give (g.ρ id)) (grow (putRow (Value.int .i64) (Sort.ahead w q) (g.ρ id) 0 d) os) (σ.set id (.cells (ver + 1) 1 [])):=by
 have hb : g.ρ id < w.heap.size:=(yf.1 hh).1
 refine replace (g':=g.give (g.ρ id)) R hid (fun b => b = g.ρ id) rfl rfl rfl (by simp [grow,Sort.ahead]) (fun b hb ht => ⟨zqi hb ht,rfl,fun o h => h.elim (fun x => x) (fun e => absurd e ht)⟩)
  (fun b hb => ⟨.inl (by rw [hb]; exact how),rfl,fun o h => absurd (by rw [hb] at h; exact h) (hN o)⟩) (fun _ _ _ h => .inl h) (fun _ _ => rfl) (fun _ _ _ => rfl)
  (fun b o h => by
   simp only [grow,Array.size_append,size_putRow,Sort.ahead]
   rcases h with h | h
   ·have:=R.nb b o h; omega
   ·omega) ?_ ?_ ?_ (fun _ _ h => by cases h) ?_
 ·intro ver' sz' len' hs
  rw [zn hid] at hs
  injection hs with hs
  injection hs with h1 h2
  injection h2 with h2 h3
  subst h1 h2
  exact .inr ⟨ver + 1,0,by rw [zn (zx hid)]; rfl,by omega⟩
 ·intro es' h; cases h
 ·intro k n h; simp [zlw,hid,Ob.fr] at h
 ·intro H hne'
  exact absurd rfl hne'
end
end Go.A
namespace Go.A
open Go.Lib
def zgx : Option Int → List Int → List Int
 | _,[] => []
 | p,x :: r => if p = some x then zgx p r else x :: zgx (some x) r
theorem zmz : ∀ (r : List Int) (x : Int),x :: zgx (some x) r = zm (x :: r)
 | [],x => rfl
 | y :: r,x => by
   simp only [zm,zgx]
   by_cases h : x = y
   ·subst h
    rw [if_pos rfl,if_pos rfl]
    exact zmz r x
   ·rw [if_neg (by simpa using h),if_neg h,zmz r y]
theorem zrH (l : List Int) : zgx none l = zm l:=by
 cases l with
 | nil => rfl
 | cons x r => simp [zgx,zmz]
theorem ztb (l : List Int) : ∀ (n k : Nat),k + n = l.length → (((List.range' k n).filter (keeps l.toArray)).map (l.toArray[·]!)) = zgx (if k = 0 then none else l[k - 1]?) (l.drop k)
 | 0,k,h => by
   rw [List.drop_of_length_le (by omega)]
   simp [zgx]
 | n + 1,k,h => by
   have hk : k < l.length:=by omega
   have ih:=ztb l n (k + 1) (by omega)
   rw [yb hk]
   simp only [List.range'_succ,zgx,List.filter_cons]
   simp only [Nat.add_one_ne_zero,if_false,Nat.add_sub_cancel,yc hk] at ih
   have e : l.toArray[k]! = l[k]:=by simp [hk]
   by_cases h0 : k = 0
   ·subst h0
    have hkeep : keeps l.toArray 0 = true:=by simp [keeps]
    rw [hkeep,if_pos rfl,if_pos rfl,if_neg (by simp),yr,ih,e]
   ·have hk1 : k - 1 < l.length:=by omega
    have e1 : l.toArray[k - 1]! = l[k - 1]:=by simp [hk1]
    rw [if_neg h0,yc hk1]
    by_cases hd : l[k - 1] = l[k]
    ·have hkeep : keeps l.toArray k = false:=by
      have : ¬ l.toArray[k]! ≠ l.toArray[k - 1]!:=by rw [e,e1,hd]; simp
      simp only [keeps,h0,false_or,decide_eq_false_iff_not]
      exact this
     simp only [hkeep,Bool.false_eq_true,if_false]
     rw [if_pos (by rw [hd]),ih,hd]
    ·have hkeep : keeps l.toArray k = true:=by
      have : l.toArray[k]! ≠ l.toArray[k - 1]!:=by rw [e,e1]; exact fun h => hd h.symm
      simp only [keeps,h0,false_or,decide_eq_true_eq]
      exact this
     simp only [hkeep,if_true,yr]
     rw [if_neg (by simpa using hd),ih,e]
theorem zv5 (l : List Int) : Lib.compact l = zm l:=by
 have:=ztb l l.length 0 (by simp)
 simp only [if_true,yj] at this
 rw [← zrH,← this,Lib.compact,compactUpTo,List.range_eq_range']
theorem zpr : ∀ l : List Int,(zm l).length ≤ l.length
 | [] => by simp [zm]
 | [x] => by simp [zm]
 | x :: y :: r => by
   have:=zpr (y :: r)
   simp only [zm]
   split
   ·simp only [yh] at this ⊢; omega
   ·simp only [yh] at this ⊢; omega
end Go.A
namespace Go.Proofs
open Go.Shelf
def Tryz.sorted_ren : Go.Shelf.Ren:=⟨fun | 6 => 145 | 8 => 176 | 9 => 117 | 11 => 226 | 13 => 168 | 12 => 167 | 23 => 222 | 24 => 223 | 14 => 213 | 15 => 214 | 16 => 215 | 17 => 216 | 18 => 217 | 19 => 218 | 20 => 219 | 21 => 220 | 22 => 221 | 25 => 241 | 26 => 242 | 27 => 243 | 28 => 244 | 29 => 245 | 30 => 246 | 31 => 256 | n => n,fun | 26 => 3 | 28 => 177 | 24 => 22 | 0 => 0 | 3 => 3 | 37 => 199 | 48 => 230 | 50 => 49 | 4 => 4 | 40 => 225 | 39 => 224 | 45 => 138 | 5 => 5 | 9 => 9 | 51 => 244 | 55 => 248 | 57 => 254 | 58 => 144 | 33 => 48 | n => n,fun | n => n⟩
theorem Tryz.sorted : Go.Proofs.SlLaysZI.n6 Tryz.prog Tryz.sorted_ren:={
 mixed:=by kernel_rfl
 f6:=⟨Tryz.f145.name,by decide,Tryz.func145.trans (congrArg some (by kernel_rfl))⟩
 f8:=⟨Tryz.f176.name,by decide,Tryz.func176.trans (congrArg some (by kernel_rfl))⟩
 f11:=⟨Tryz.f226.name,by decide,Tryz.func226.trans (congrArg some (by kernel_rfl))⟩
 t0:=Tryz.underlying0
 a0:=Tryz.isAgg0
 z0:=Tryz.sizeOf0
 v0:=Tryz.zeroValue0
 t24:=Tryz.underlying22
 a24:=Tryz.isAgg22
 z24:=Tryz.sizeOf22
 v24:=Tryz.zeroValue22
 t26:=Tryz.underlying3
 a26:=Tryz.isAgg3
 z26:=Tryz.sizeOf3
 v26:=Tryz.zeroValue3
 t28:=Tryz.underlying177
 a28:=Tryz.isAgg177
 z28:=Tryz.sizeOf177
 v28:=Tryz.zeroValue177
 i26:=by kernel_rfl }
def Tryz.sort_ren : Go.Shelf.Ren:=⟨fun | 5 => 117 | 8 => 168 | 7 => 167 | 19 => 222 | 20 => 223 | 10 => 213 | 11 => 214 | 12 => 215 | 13 => 216 | 14 => 217 | 15 => 218 | 16 => 219 | 17 => 220 | 18 => 221 | 30 => 241 | 31 => 242 | 32 => 243 | 33 => 244 | 34 => 245 | 35 => 246 | 40 => 256 | n => n,fun | 23 => 22 | 25 => 3 | 3 => 3 | 32 => 199 | 22 => 22 | 0 => 0 | 44 => 230 | 46 => 49 | 4 => 4 | 36 => 225 | 35 => 224 | 41 => 138 | 5 => 5 | 9 => 9 | 53 => 244 | 57 => 248 | 63 => 254 | 64 => 144 | n => n,fun | n => n⟩
theorem Tryz.sort : Go.Proofs.SlLaysM.n5 Tryz.prog Tryz.sort_ren:={
 mixed:=by kernel_rfl
 f5:=⟨Tryz.f117.name,by decide,Tryz.func117.trans (congrArg some (by kernel_rfl))⟩
 f7:=⟨Tryz.f167.name,by decide,Tryz.func167.trans (congrArg some (by kernel_rfl))⟩
 f8:=Tryz.func168.trans (congrArg some (by kernel_rfl))
 f10:=⟨Tryz.f213.name,by decide,Tryz.func213.trans (congrArg some (by kernel_rfl))⟩
 f11:=⟨Tryz.f214.name,by decide,Tryz.func214.trans (congrArg some (by kernel_rfl))⟩
 f12:=⟨Tryz.f215.name,by decide,Tryz.func215.trans (congrArg some (by kernel_rfl))⟩
 f13:=⟨Tryz.f216.name,by decide,Tryz.func216.trans (congrArg some (by kernel_rfl))⟩
 f14:=⟨Tryz.f217.name,by decide,Tryz.func217.trans (congrArg some (by kernel_rfl))⟩
 f15:=⟨Tryz.f218.name,by decide,Tryz.func218.trans (congrArg some (by kernel_rfl))⟩
 f16:=⟨Tryz.f219.name,by decide,Tryz.func219.trans (congrArg some (by kernel_rfl))⟩
 f17:=⟨Tryz.f220.name,by decide,Tryz.func220.trans (congrArg some (by kernel_rfl))⟩
 f18:=⟨Tryz.f221.name,by decide,Tryz.func221.trans (congrArg some (by kernel_rfl))⟩
 f19:=Tryz.func222.trans (congrArg some (by kernel_rfl))
 f20:=Tryz.func223.trans (congrArg some (by kernel_rfl))
 f30:=⟨Tryz.f241.name,by decide,Tryz.func241.trans (congrArg some (by kernel_rfl))⟩
 f31:=Tryz.func242.trans (congrArg some (by kernel_rfl))
 f32:=Tryz.func243.trans (congrArg some (by kernel_rfl))
 f33:=⟨Tryz.f244.name,by decide,Tryz.func244.trans (congrArg some (by kernel_rfl))⟩
 f34:=⟨Tryz.f245.name,by decide,Tryz.func245.trans (congrArg some (by kernel_rfl))⟩
 f35:=⟨Tryz.f246.name,by decide,Tryz.func246.trans (congrArg some (by kernel_rfl))⟩
 f40:=⟨Tryz.f256.name,by decide,Tryz.func256.trans (congrArg some (by kernel_rfl))⟩
 t0:=Tryz.underlying0
 a0:=Tryz.isAgg0
 z0:=Tryz.sizeOf0
 v0:=Tryz.zeroValue0
 t3:=Tryz.underlying3
 a3:=Tryz.isAgg3
 z3:=Tryz.sizeOf3
 v3:=Tryz.zeroValue3
 t4:=Tryz.underlying4
 a4:=Tryz.isAgg4
 z4:=Tryz.sizeOf4
 v4:=Tryz.zeroValue4
 t5:=Tryz.underlying5
 a5:=Tryz.isAgg5
 z5:=Tryz.sizeOf5
 v5:=Tryz.zeroValue5
 t9:=Tryz.underlying9
 a9:=Tryz.isAgg9
 z9:=Tryz.sizeOf9
 v9:=Tryz.zeroValue9
 t22:=Tryz.underlying22
 a22:=Tryz.isAgg22
 z22:=Tryz.sizeOf22
 v22:=Tryz.zeroValue22
 t23:=Tryz.underlying22
 a23:=Tryz.isAgg22
 z23:=Tryz.sizeOf22
 v23:=Tryz.zeroValue22
 t25:=Tryz.underlying3
 a25:=Tryz.isAgg3
 z25:=Tryz.sizeOf3
 v25:=Tryz.zeroValue3
 t32:=Tryz.underlying199
 a32:=Tryz.isAgg199
 z32:=Tryz.sizeOf199
 v32:=Tryz.zeroValue199
 t35:=Tryz.underlying224
 a35:=Tryz.isAgg224
 z35:=Tryz.sizeOf224
 v35:=Tryz.zeroValue224
 t36:=Tryz.underlying225
 a36:=Tryz.isAgg225
 z36:=Tryz.sizeOf225
 v36:=Tryz.zeroValue225
 t41:=Tryz.underlying138
 a41:=Tryz.isAgg138
 z41:=Tryz.sizeOf138
 v41:=Tryz.zeroValue138
 t44:=Tryz.underlying230
 a44:=Tryz.isAgg230
 z44:=Tryz.sizeOf230
 v44:=Tryz.zeroValue230
 t46:=Tryz.underlying49
 a46:=Tryz.isAgg49
 z46:=Tryz.sizeOf49
 v46:=Tryz.zeroValue49
 t53:=Tryz.underlying244
 a53:=Tryz.isAgg244
 z53:=Tryz.sizeOf244
 v53:=Tryz.zeroValue244
 t57:=Tryz.underlying248
 a57:=Tryz.isAgg248
 z57:=Tryz.sizeOf248
 v57:=Tryz.zeroValue248
 t63:=Tryz.underlying254
 a63:=Tryz.isAgg254
 z63:=Tryz.sizeOf254
 v63:=Tryz.zeroValue254
 t64:=Tryz.underlying144
 a64:=Tryz.isAgg144
 z64:=Tryz.sizeOf144
 v64:=Tryz.zeroValue144 }
end Go.Proofs
namespace Go.Proofs
open Go.Shelf
def Tryz.compact_ren : Go.Shelf.Ren:=⟨fun | 43 => 118 | n => n,fun | 22 => 22 | 23 => 3 | 3 => 3 | 4 => 4 | 0 => 0 | n => n,fun n => n⟩
theorem Tryz.compact : Go.Proofs.SlLaysN.n43 Tryz.prog Tryz.compact_ren:={
 mixed:=by kernel_rfl
 f43:=⟨Tryz.f118.name,by decide,Tryz.func118.trans (congrArg some (by kernel_rfl))⟩
 t0:=Tryz.underlying0
 a0:=Tryz.isAgg0
 z0:=Tryz.sizeOf0
 v0:=Tryz.zeroValue0
 t3:=Tryz.underlying3
 a3:=Tryz.isAgg3
 z3:=Tryz.sizeOf3
 v3:=Tryz.zeroValue3
 t4:=Tryz.underlying4
 a4:=Tryz.isAgg4
 z4:=Tryz.sizeOf4
 v4:=Tryz.zeroValue4
 t22:=Tryz.underlying22
 a22:=Tryz.isAgg22
 z22:=Tryz.sizeOf22
 v22:=Tryz.zeroValue22
 t23:=Tryz.underlying3
 a23:=Tryz.isAgg3
 z23:=Tryz.sizeOf3
 v23:=Tryz.zeroValue3
 i23:=by kernel_rfl }
end Go.Proofs
namespace Go.Proofs
open Go.A Go.Sort
theorem zqG {g : G} {w : World} {σ : zd} {id ver : Nat} (hid : σ[id]? = some (.cells ver 1 [])) {u : Value} (hv : zf g w σ (.one (.own id ver 0 0)) u) : ∃ a,u = .slice a 0 0:=by
 obtain ⟨a,c,e1,e2,e3,e4⟩:=zfY hv hid
 exact ⟨a,by rw [e1,e3 rfl]⟩
theorem zA7 {σ : zd} {id : Nat} {o : Ob} (h : σ[id]? = some o) : σ.set id o = σ:=by
 apply List.ext_getElem?
 intro j
 rw [List.getElem?_set]
 by_cases e : id = j
 ·subst e
  rw [if_pos rfl,if_pos (ya.1 h).1,h]
 ·rw [if_neg e]
theorem Tryz.ext_sort (args : List V) (σ : zd) (v : V) (σ' : zd) (h : zlj args σ = some (v,σ')) :
  Go.A.Enters Tryz.prog 117 ∧ ∀ g w us,Rel g w σ → zz g w σ args us → Calls Tryz.prog 117 us.toArray w fun e w' => ∃ u g',e = .returned u ∧ zf g' w' σ' v u ∧ Rel g' w' σ' ∧ Ext g w σ g' w' σ':=by
 refine ⟨⟨Tryz.f117,_,Tryz.func117,by kernel_rfl,rfl⟩,fun g w us R0 hv => ?_⟩
 have htup : ∀ (g : G) (w : World) (σ : zd),zf g w σ (.tup []) (.tuple #[]):=fun g w σ => by simp only [zf]; exact ⟨#[],rfl,by simp only [zz]⟩
 unfold zlj at h
 split at h
 ·injection h with h
  simp only [Prod.mk.injEq] at h
  obtain ⟨rfl,rfl⟩:=h
  simp only [zz,zf,zw,rep] at hv
  obtain ⟨u,rest,rfl,⟨a,c,sz,rfl,_⟩,rfl⟩:=hv
  have hc:=AnyM.slices_Sort_int_none Tryz.sort a c w
  refine Calls.mono (f:=117) hc fun e w' he => ?_
  obtain ⟨rfl,rfl⟩:=he
  exact ⟨_,g,rfl,htup _ _ _,R0,Ext.refl _ _ _⟩
 ·rename_i id ver n
  rw [yg] at h
  obtain ⟨l,h1,h2⟩:=h
  rw [yo] at h1
  obtain ⟨o,hid,h1⟩:=h1
  obtain ⟨rfl,hn,hlim⟩:=znA h1
  subst hn
  simp only [zpu,Prod.mk.injEq] at h2
  obtain ⟨rfl,rfl⟩:=h2
  simp only [zz] at hv
  obtain ⟨u,rest,rfl,hv,rfl⟩:=hv
  have hperm : (zbX l).length = l.length:=List.length_mergeSort l
  by_cases hl : l = []
  ·subst hl
   obtain ⟨a,rfl⟩:=zqG hid hv
   have hc:=AnyM.slices_Sort_int_none Tryz.sort a 0 w
   refine Calls.mono (f:=117) hc fun e w' he => ?_
   obtain ⟨rfl,rfl⟩:=he
   have hs : zbX [] = []:=by simp [zbX]
   rw [hs,zA7 hid]
   exact ⟨_,g,rfl,htup _ _ _,R0,Ext.refl _ _ _⟩
  ·obtain ⟨c,arr,t,rfl,q1,q2,q3,q4,q5,q6⟩:=zvx R0 hid hl hv
   have hc:=AnyM.slices_Sort_int Tryz.sort (g.ρ id) 0 c l w (ztq R0 q2 q4) (yf.1 q2).1 (by unfold LIM at hlim; omega)
   refine Calls.mono (f:=117) hc fun e w' he => ?_
   obtain ⟨rfl,q,os,rfl⟩:=he
   obtain ⟨H,R1⟩:=zDl R0 hid (l':=zbX l) hperm q2 q3 q5 q6 q os
   exact ⟨_,g,rfl,htup _ _ _,R1,H⟩
 ·cases h
theorem Tryz.ext_compact (args : List V) (σ : zd) (v : V) (σ' : zd) (h : zff args σ = some (v,σ')) :
  Go.A.Enters Tryz.prog 118 ∧ ∀ g w us,Rel g w σ → zz g w σ args us → Calls Tryz.prog 118 us.toArray w fun e w' => ∃ u g',e = .returned u ∧ zf g' w' σ' v u ∧ Rel g' w' σ' ∧ Ext g w σ g' w' σ':=by
 refine ⟨⟨Tryz.f118,_,Tryz.func118,by kernel_rfl,rfl⟩,fun g w us R0 hv => ?_⟩
 have hnil : ∀ (g : G) (w : World) (σ : zd) a c,zf g w σ (vsl []) (.slice a 0 c):=fun g w σ a c => by
  simp only [vsl,zf,zw,rep]
  exact ⟨a,c,0,rfl,by simp,by simp only [zbO],by simp⟩
 unfold zff at h
 split at h
 ·injection h with h
  simp only [Prod.mk.injEq] at h
  obtain ⟨rfl,rfl⟩:=h
  simp only [zz,zf,zw,rep] at hv
  obtain ⟨u,rest,rfl,⟨a,c,sz,rfl,_⟩,rfl⟩:=hv
  have hc:=AnyG.slices_Compact_int_empty Tryz.compact a c w
  refine Calls.mono (f:=118) hc fun e w' he => ?_
  obtain ⟨rfl,rfl⟩:=he
  exact ⟨_,g,rfl,hnil _ _ _ _ _,R0,Ext.refl _ _ _⟩
 ·rename_i id ver n
  rw [yg] at h
  obtain ⟨l,h1,h2⟩:=h
  rw [yo] at h1
  obtain ⟨o,hid,h1⟩:=h1
  obtain ⟨rfl,hn,hlim⟩:=znA h1
  subst hn
  simp only [zkg,Prod.mk.injEq] at h2
  obtain ⟨rfl,rfl⟩:=h2
  simp only [zz] at hv
  obtain ⟨u,rest,rfl,hv,rfl⟩:=hv
  by_cases hl : l = []
  ·subst hl
   obtain ⟨a,rfl⟩:=zqG hid hv
   have hc:=AnyG.slices_Compact_int_empty Tryz.compact a 0 w
   refine Calls.mono (f:=118) hc fun e w' he => ?_
   obtain ⟨rfl,rfl⟩:=he
   obtain ⟨H,R1⟩:=replace (g':=g) (w':=w') (new:=.cells (ver + 1) 1 []) R0 hid (fun _ => False) rfl rfl rfl (yt _) (fun b _ _ => ⟨rfl,rfl,fun _ h => h⟩) (fun b hb => hb.elim) (fun _ _ _ h => h) (fun _ _ => rfl) (fun _ _ _ => rfl) (fun b o h => R0.nb b o h)
    (fun ver' sz' len' hs => by
     rw [zn hid] at hs
     injection hs with hs
     injection hs with h1 h2
     injection h2 with h2 h3
     subst h1 h2
     exact .inr ⟨ver + 1,0,by rw [zn (zx hid)]; rfl,by omega⟩)
    (fun es' h => by cases h) (fun k n h => by simp [zlw,hid,Ob.fr] at h) (fun _ _ h => by cases h) (fun H hne => absurd rfl hne)
   exact ⟨_,g,rfl,hnil _ _ _ _ _,R1,H⟩
  ·obtain ⟨c,arr,t,rfl,q1,q2,q3,q4,q5,q6⟩:=zvx R0 hid hl hv
   have hc:=AnyG.slices_Compact_int Tryz.compact (g.ρ id) 0 c l w (ztq R0 q2 q4) (by unfold LIM at hlim; omega) q1
   rw [zv5] at hc
   refine Calls.mono (f:=118) hc fun e w' he => ?_
   obtain ⟨rfl,q,rfl⟩:=he
   have hle:=zpr l
   obtain ⟨H,R1⟩:=zCf R0 hid (d:=(zm l ++ yv (l.length - (zm l).length) 0).toArray) q2 q5 q6 q #[]
   have hh:=zrN (w:=w) (q:=q) (os:=#[]) (d:=(zm l ++ yv (l.length - (zm l).length) 0).toArray) q2
   rw [grow_empty] at H R1 hh
   refine ⟨_,g.give (g.ρ id),rfl,?_,R1,H⟩
   simp only [vsl,zf,zw,rep,yu]
   refine ⟨_,c,1,rfl,by omega,zdm (fun e he => by obtain ⟨x,_,rfl⟩:=List.mem_map.1 he; rfl),.inr ⟨g.ρ id,0,rfl,zey fun i e he => zf6 fun j x hj => ?_⟩⟩
   rw [ye,yg] at he
   obtain ⟨y,hy,rfl⟩:=he
   cases j with
   | succ j => simp [zxz] at hj
   | zero =>
     simp [zxz] at hj
     subst hj
     have hi : i < (zm l).length:=(ya.1 hy).1
     refine ⟨.int .i64 y,.inr rfl,?_,by simp [rep,zxA]⟩
     rw [zgX hh,yw,yy,yx,znI (by simp; omega) (by simp; omega)]
     have:=(ya.1 hy).2
     simp [List.getElem_append_left hi,this]
 ·cases h
end Go.Proofs

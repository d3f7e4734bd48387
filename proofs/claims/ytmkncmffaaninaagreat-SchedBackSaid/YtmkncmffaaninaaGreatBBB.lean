/- A part of the proof of SchedBack. Conditions: none. -/
import Derived.Test.YtmkncmffaaninaaGreatBBA
import Derived.Test.YtmkncmffaaninaaGreatBAR
set_option linter.unusedVariables false
set_option linter.unusedSimpArgs false
set_option linter.unusedSectionVars false
open List renaming getElem?_set_ne → ya,getElem?_set_self → yb,length_set → yc,getElem?_map → yf,getElem?_eq_getElem → yg,length_append → yh,getElem?_cons_zero → yi,getElem?_cons_succ → yk,length_map → yl,getElem?_append_right → ym,getD_eq_getElem?_getD → yn,eq_nil_of_length_eq_zero → yo,set_set → yq,drop_eq_getElem_cons → yr,getElem?_append_left → ys,mem_append → yt,getElem?_eq_some_iff → yu,take_of_length_le → yv,getElem_mem → yw,length_replicate → yx,mem_cons → yy,mem_cons_of_mem → yz,drop_zero → yA,length_cons → yC,append_nil → yD,nil_append → yE,map_nil → yI,range → yJ,map → yK
open Int renaming toNat_natCast → yd,natCast_nonneg → ye,lt_irrefl → yF
open Bool renaming false_and → yj,true_and → yp
open Nat renaming le_trans → yB,add_comm → yG,le_refl → yH
namespace AC
open Go Go.A Go.A.Lex
theorem zs7 : ∀ l : List Int,zjY 1 (l.map ri) = true
 | [] => rfl
 | x :: l => by rw [List.map_cons,zjY,zs7 l]; rfl
structure HF (n : Nat) (rows : List (List Int)) (σ : zb) : Prop where
 rlen : rows.length = n
 len2 : n + 4 ≤ σ.length
 main : ∃ es,σ[n + 1]? = some (.cells 0 1 es) ∧ es.length = n ∧ ∀ i (h : i < rows.length),es[i]? = some [.f (.sl (rows[i].map ri))]
theorem HG.step {n k : Nat} {D D' : zmY} {imp imp' : List Int} {done : List (List Int)} {σ τ : zb} (h : HG n k D imp done σ) (hk : k < n) {es : List (List C)} (he : σ[n + 1]? = some (.cells 0 1 es)) (row : List Int)
  (hl : τ.length = σ.length + 1) (h1 : τ[n + 1]? = some (.cells 0 1 (es.set k [.f (.sl (row.map ri))]))) (h2 : ∀ i,k < i → i < n → τ[1 + i]? = σ[1 + i]?) (h3 : τ[n + 2]? = some (.mp (zgu vIv D'))) (h4 : τ[n + 3]? = some (.tok 1 [imp'.length])) :
  HG n (k + 1) D' imp' (done ++ [row]) τ:=by
 obtain ⟨es',e0,e1,e2,e3⟩:=h.main
 rw [he] at e0
 simp only [Option.some.injEq,Ob.cells.injEq] at e0
 obtain ⟨_,_,rfl⟩:=e0
 have hd:=h.dlen
 refine ⟨by have:=h.len; omega,by have:=h.len2; omega,by simp [hd],⟨_,h1,by rw [yc]; exact e1,fun i hi => ?_,fun i i1 i2 => ?_⟩,fun i i1 i2 => ?_,h3,h4⟩
 ·by_cases c : i = k
  ·subst c
   rw [yb (by omega),List.getElem_append_right (by omega)]
   simp [hd]
  ·have hi' : i < done.length:=by simp at hi; omega
   rw [ya (by omega),List.getElem_append_left hi']
   exact e2 i hi'
 ·rw [ya (by omega)]
  exact e3 i (by omega) i2
 ·rw [h2 i (by omega) i2]
  exact h.rows i (by omega) i2
section
variable (b : PBlock) (hb : okB b) (hs : ∀ o ∈ b.ops,o.args.length ≤ 64) (n : Nat) (hn : n = b.ops.length) (hn2 : n ≤ 1000)
include hb hs hn hn2
set_option maxHeartbeats 4000000 in
theorem zvL : ∀ (d k : Nat) (D : zmY) (imp : List Int) (done : List (List Int)) (σ : zb) (a0 a1 a2 a6 a7 a8 a9 a10 a14 a15 a16 a17 a18 a19 a20 a21 : V),n - k = d → k ≤ n → imp.length ≤ k → HG n k D imp done σ →
  ∃ σ',HF n (done ++ zbZ k D imp (b.ops.drop k)) σ' ∧
  exec T zdG ⟨[a0,a1,a2,.one (.own (n + 1) 0 0 n),.one (.map (n + 2)),.one (.ap (n + 3) 0 (imp.map ri)),a6,a7,a8,a9,a10,vL (b.ops.map ro),vI n,vI k,a14,a15,a16,a17,a18,a19,a20,a21],σ,0,0⟩ =
   some (.exit 0,⟨[vU,vU,vU,.one (.own (n + 1) 0 0 n),vU,vU,vU,vU,vU,vU,vU,vU,vU,vU,vU,vU,vU,vU,vU,vU,vU,vU],σ',0,0⟩):=by
 intro d
 induction d with
 | zero =>
   intro k D imp done σ a0 a1 a2 a6 a7 a8 a9 a10 a14 a15 a16 a17 a18 a19 a20 a21 h1 h2 hi hI
   have hk : k = n:=by omega
   subst hk
   have hlen':=hI.len
   have hd : (σ.length ≤ 1000000) = True:=by simp; omega
   have e : b.ops.drop k = []:=List.drop_eq_nil_of_le (by omega)
   refine ⟨σ,?_,?_⟩
   ·rw [e,zbZ,yD]
    obtain ⟨es,e0,e1,e2,_⟩:=hI.main
    exact ⟨hI.dlen,hI.len2,es,e0,e1,e2⟩
   ·rw [xl zdG rfl,zfl]
    simp -implicitDefEqProofs only [go_sem,yF,hd]
 | succ d ih =>
   intro k D imp done σ a0 a1 a2 a6 a7 a8 a9 a10 a14 a15 a16 a17 a18 a19 a20 a21 h1 h2 hi hI
   have hk : k < b.ops.length:=by omega
   have hkn : k < n:=by omega
   have hdk : b.ops.drop k = b.ops[k] :: b.ops.drop (k + 1):=yr hk
   obtain ⟨es,hm1,hm2,hm3,hm4⟩:=hI.main
   have hmap:=hI.map
   have htok:=hI.tok
   have hr:=hI.rows k (yH _) hkn
   have hlen:=hI.len2
   have hlen':=hI.len
   have ha:=hs _ (yw hk)
   have hR : RInv n k D es [] (σ ++ [.cells 0 6 [cOp b.ops[k]]]):=⟨by simp; omega,hm2,zdw hm1 _,hm4 k (yH _) hkn,zdw hr _,zdw hmap _⟩
   have hA:=fun a0 a1 a2 a8 a9 a10 a14 a18 a19 a20 a21 => zwk n k (by omega) hkn D b.ops[k].args (by omega) (.one (.ap (n + 3) 0 (imp.map ri))) (.one (.ptr σ.length 0 0 0)) (vL (b.ops.map ro)) (vI n) (vI k) b.ops[k].args.length 0 [] es _ a0 a1 a2 a8 a9 a10 a14 a18 a19 a20 a21 (by omega) (by omega) (by simp; omega) hR
   rw [yA,yE] at hA
   obtain ⟨l,hl⟩ : ∃ l,l = ze6 D b.ops[k].args:=⟨_,rfl⟩
   rw [← hl] at hA
   have hll : l.length ≤ 64:=by rw [hl]; exact yB (zjC D _) ha
   have lenτ : (zcH n k es l (σ ++ [.cells 0 6 [cOp b.ops[k]]])).length = σ.length + 1:=by simp [zcH]
   have t1 : (zcH n k es l (σ ++ [.cells 0 6 [cOp b.ops[k]]]))[n + 1]? = some (.cells 0 1 (es.set k [.own (1 + k) l.length 0 l.length])):=by
    unfold zcH; rw [yb (by simp; omega)]
   have t2 : (zcH n k es l (σ ++ [.cells 0 6 [cOp b.ops[k]]]))[1 + k]? = some (.cells l.length 1 (l.map zi)):=by
    unfold zcH; rw [ya (by omega),yb (by simp; omega)]
   have t0 : ∀ j,j ≠ n + 1 → j ≠ 1 + k → (zcH n k es l (σ ++ [.cells 0 6 [cOp b.ops[k]]]))[j]? = (σ ++ [.cells 0 6 [cOp b.ops[k]]])[j]?:=fun j j1 j2 => by
    unfold zcH; rw [ya (fun h => j1 h.symm),ya (fun h => j2 h.symm)]
   have t3:=(t0 (n + 2) (by omega) (by omega)).trans (zdw hmap _)
   have t4:=(t0 (n + 3) (by omega) (by omega)).trans (zdw htok _)
   have t5 : (zcH n k es l (σ ++ [.cells 0 6 [cOp b.ops[k]]]))[σ.length]? = some (.cells 0 6 [cOp b.ops[k]]):=by rw [t0 _ (by omega) (by omega)]; simp
   have t6 : ∀ i,k < i → i < n → (zcH n k es l (σ ++ [.cells 0 6 [cOp b.ops[k]]]))[1 + i]? = σ[1 + i]?:=fun i i1 i2 => by
    rw [t0 _ (by omega) (by omega),ys (by omega)]
   clear t0
   generalize zcH n k es l (σ ++ [.cells 0 6 [cOp b.ops[k]]]) = τ at *
   have hp:=zne b.ops[k].kind
   have hk2 : ((k : Int) < (n : Int)) = True:=by simp; omega
   have hk3 : (k < n) = True:=eq_true hkn
   have hka : (k + 1 ≤ n) = True:=by simp; omega
   have hd1 : (σ.length + 1 ≤ 1000000) = True:=by simp; omega
   have hew : (es.set k [.own (1 + k) l.length 0 l.length])[k]? = some [C.own (1 + k) l.length 0 l.length]:=yb (by omega)
   have hesl : (es.set k [.own (1 + k) l.length 0 l.length]).length = n:=by rw [yc]; exact hm2
   have u12 : ∀ (ρ : zb) o,(ρ.set (1 + k) o)[n + 1]? = ρ[n + 1]?:=fun ρ o => ya (by omega)
   have u13 : ∀ (ρ : zb) o,(ρ.set (1 + k) o)[n + 2]? = ρ[n + 2]?:=fun ρ o => ya (by omega)
   have u14 : ∀ (ρ : zb) o,(ρ.set (1 + k) o)[n + 3]? = ρ[n + 3]?:=fun ρ o => ya (by omega)
   have u15 : ∀ (ρ : zb) o,(ρ.set (1 + k) o)[σ.length]? = ρ[σ.length]?:=fun ρ o => ya (by omega)
   have u21 : ∀ (ρ : zb) o,(ρ.set (n + 1) o)[1 + k]? = ρ[1 + k]?:=fun ρ o => ya (by omega)
   have u23 : ∀ (ρ : zb) o,(ρ.set (n + 1) o)[n + 2]? = ρ[n + 2]?:=fun ρ o => ya (by omega)
   have u24 : ∀ (ρ : zb) o,(ρ.set (n + 1) o)[n + 3]? = ρ[n + 3]?:=fun ρ o => ya (by omega)
   have u25 : ∀ (ρ : zb) o,(ρ.set (n + 1) o)[σ.length]? = ρ[σ.length]?:=fun ρ o => ya (by omega)
   have u31 : ∀ (ρ : zb) o,(ρ.set (n + 2) o)[1 + k]? = ρ[1 + k]?:=fun ρ o => ya (by omega)
   have u32 : ∀ (ρ : zb) o,(ρ.set (n + 2) o)[n + 1]? = ρ[n + 1]?:=fun ρ o => ya (by omega)
   have u34 : ∀ (ρ : zb) o,(ρ.set (n + 2) o)[n + 3]? = ρ[n + 3]?:=fun ρ o => ya (by omega)
   have u41 : ∀ (ρ : zb) o,(ρ.set (n + 3) o)[1 + k]? = ρ[1 + k]?:=fun ρ o => ya (by omega)
   have u42 : ∀ (ρ : zb) o,(ρ.set (n + 3) o)[n + 1]? = ρ[n + 1]?:=fun ρ o => ya (by omega)
   have u43 : ∀ (ρ : zb) o,(ρ.set (n + 3) o)[n + 2]? = ρ[n + 2]?:=fun ρ o => ya (by omega)
   have u45 : ∀ (ρ : zb) o,(ρ.set (n + 3) o)[σ.length]? = ρ[σ.length]?:=fun ρ o => ya (by omega)
   have us : ∀ (ρ : zb) o j,(j < ρ.length) → (ρ.set j o)[j]? = some o:=fun ρ o j h => by simp [h]
   have l1 : (1 + k < σ.length + 1) = True:=by simp; omega
   have l2 : (n + 1 < σ.length + 1) = True:=by simp; omega
   have l3 : (n + 2 < σ.length + 1) = True:=by simp; omega
   have l4 : (n + 3 < σ.length + 1) = True:=by simp; omega
   have hw:=zd hk hb.ops
   have fin:=fun (D' : zmY) (imp' row : List Int) (τ' : zb) (hi' : imp'.length ≤ k + 1) (h : HG n (k + 1) D' imp' (done ++ [row]) τ') => ih (k + 1) D' imp' (done ++ [row]) τ' vU vU vU vU vU vU vU vU vU vU vU vU vU vU vU vU (by omega) (by omega) hi' h
   have eqd : ∀ X,done ++ X :: zbZ (k + 1) (zcn D k b.ops[k]) (zfW imp k b.ops[k]) (b.ops.drop (k + 1)) = done ++ [X] ++ zbZ (k + 1) (zcn D k b.ops[k]) (zfW imp k b.ops[k]) (b.ops.drop (k + 1)):=fun X => by rw [List.append_assoc]; rfl
   rw [hdk,zbZ,eqd,xl zdG rfl,zfl]
   cases e1 : pure b.ops[k].kind with
   | true =>
     rw [e1] at hp
     have er : ziG D imp b.ops[k] = zq (zbG l):=by unfold ziG; rw [if_pos e1,yD,hl]
     have ei : zfW imp k b.ops[k] = imp:=by unfold zfW; rw [if_pos e1]
     have hew2:=hew
     have hS:=fun ρ h => zmF l l.length rfl (by omega) ρ (1 + k) l.length h
     have hC:=fun ρ h => zfZ (zbG l) l.length (by simp [zbG]) (by omega) ρ (1 + k) l.length h
     rw [er,ei]
     by_cases e2 : 0 < b.ops[k].dst
     ·have ed : zcn D k b.ops[k] = zh7 b.ops[k].dst (k : Int) D:=by unfold zcn; rw [if_pos e2]
      have hpm:=zwz b.ops[k].dst (k : Int) D
      rw [ed]
      have fin':=fun (τ' : zb) => fin (zh7 b.ops[k].dst (k : Int) D) (imp) (zq (zbG l)) τ' (by omega)
      simp -implicitDefEqProofs only [go_sem] at hp hA hS hC hpm fin'
      simp -implicitDefEqProofs only [go_sem,hk2,hk3,ilt hk,zH hk,ro,hp,hA,e2,hpm,t1,t2,t3,t4,t5,u12,u13,u14,u15,u21,u23,u24,u25,u31,u32,u34,u41,u42,u43,u45,us,l1,l2,l3,l4,lenτ,hew,hew2,hesl,hka,hd1,hS,hC,ye,yd,hw,yc,yh,yl]
      refine fin' _ (hI.step hkn hm1 _ ?_ ?_ ?_ ?_ ?_)
      ·first | exact lenτ | (simp only [yc]; exact lenτ)
      ·rw [yb (by first | omega | (simp only [yc]; omega))]
       try simp only [yq]
      ·intro i i1 i2
       have:=t6 i i1 i2
       repeat rw [ya (by omega)]
       exact this
      ·repeat rw [ya (by omega)]
       exact yb (by first | omega | (simp only [yc]; omega))
      ·repeat rw [ya (by omega)]
       exact t4
     ·have ed : zcn D k b.ops[k] = D:=by unfold zcn; rw [if_neg e2]
      rw [ed]
      have fin':=fun (τ' : zb) => fin (D) (imp) (zq (zbG l)) τ' (by omega)
      simp -implicitDefEqProofs only [go_sem] at hp hA hS hC fin'
      simp -implicitDefEqProofs only [go_sem,hk2,hk3,ilt hk,zH hk,ro,hp,hA,e2,t1,t2,t3,t4,t5,u12,u13,u14,u15,u21,u23,u24,u25,u31,u32,u34,u41,u42,u43,u45,us,l1,l2,l3,l4,lenτ,hew,hew2,hesl,hka,hd1,hS,hC,ye,yd,hw,yc,yh,yl]
      refine fin' _ (hI.step hkn hm1 _ ?_ ?_ ?_ ?_ ?_)
      ·first | exact lenτ | (simp only [yc]; exact lenτ)
      ·rw [yb (by first | omega | (simp only [yc]; omega))]
       try simp only [yq]
      ·intro i i1 i2
       have:=t6 i i1 i2
       repeat rw [ya (by omega)]
       exact this
      ·repeat rw [ya (by omega)]
       exact t3
      ·repeat rw [ya (by omega)]
       exact t4
   | false =>
     rw [e1] at hp
     have e1' : ¬ pure b.ops[k].kind = true:=by rw [e1]; simp
     have er : ziG D imp b.ops[k] = zq (zbG (l ++ imp)):=by unfold ziG; rw [if_neg e1',hl]
     have ei : zfW imp k b.ops[k] = imp ++ [(k : Int)]:=by unfold zfW; rw [if_neg e1']
     have hok : zjY 1 (imp.map ri) = true:=zs7 imp
     have hil : (imp.length + 1 ≤ LIM) = True:=eq_true (by unfold LIM; omega)
     have himp : imp.map ri ++ [[Fz.lit (Value.int IntKind.i64 (k : Int))]] = (imp ++ [(k : Int)]).map ri:=by simp [ri]
     rw [er,ei]
     by_cases ez : l.length + imp.length = 0
     ·have z1 : l = []:=yo (by omega)
      have z2 : imp = []:=yo (by omega)
      subst z1 z2
      have hew2 : (es.set k [.own (1 + k) 0 0 0])[k]? = some [C.own (1 + k) 0 0 0]:=yb (by omega)
      have hew3 : ((es.set k [.own (1 + k) 0 0 0]).set k [.own (1 + k) 0 0 0])[k]? = some [C.own (1 + k) 0 0 0]:=yb (by rw [yc]; omega)
      have hesl0 : (es.set k [.own (1 + k) 0 0 0]).length = n:=by rw [yc]; exact hm2
      have hrl : (ri (k : Int)).length = 1:=rfl
      have hil0 : (1 ≤ LIM) = True:=eq_true (by unfold LIM; omega)
      have hil1 : (0 + 1 ≤ LIM) = True:=eq_true (by unfold LIM; omega)
      have hS:=fun ρ h => zmF [] 0 rfl (by omega) ρ (1 + k) 0 h
      have hC:=fun ρ h => zfZ (zbG []) 0 (by simp [zbG]) (by omega) ρ (1 + k) 0 h
      by_cases e2 : 0 < b.ops[k].dst
      ·have ed : zcn D k b.ops[k] = zh7 b.ops[k].dst (k : Int) D:=by unfold zcn; rw [if_pos e2]
       have hpm:=zwz b.ops[k].dst (k : Int) D
       rw [ed]
       have fin':=fun (τ' : zb) => fin (zh7 b.ops[k].dst (k : Int) D) ([] ++ [(k : Int)]) (zq (zbG ([] ++ []))) τ' (by simp)
       simp -implicitDefEqProofs only [go_sem] at hp hA hS hC hpm fin' himp
       simp -implicitDefEqProofs only [go_sem,hk2,hk3,ilt hk,zH hk,ro,hp,hA,hil,hil0,hil1,himp,hew3,hesl0,hrl,false_and,if_false,e2,hpm,t1,t2,t3,t4,t5,u12,u13,u14,u15,u21,u23,u24,u25,u31,u32,u34,u41,u42,u43,u45,us,l1,l2,l3,l4,lenτ,hew,hew2,hesl,hka,hd1,hS,hC,ye,yd,hw,yc,yh,yl]
       refine fin' _ (hI.step hkn hm1 _ ?_ ?_ ?_ ?_ ?_)
       ·first | exact lenτ | (simp only [yc]; exact lenτ)
       ·rw [yb (by first | omega | (simp only [yc]; omega))]
        try simp only [yq]
       ·intro i i1 i2
        have:=t6 i i1 i2
        repeat rw [ya (by omega)]
        exact this
       ·repeat rw [ya (by omega)]
        exact yb (by first | omega | (simp only [yc]; omega))
       ·repeat rw [ya (by omega)]
        rw [yb (by first | omega | (simp only [yc]; omega))]
        try simp
      ·have ed : zcn D k b.ops[k] = D:=by unfold zcn; rw [if_neg e2]
       rw [ed]
       have fin':=fun (τ' : zb) => fin (D) ([] ++ [(k : Int)]) (zq (zbG ([] ++ []))) τ' (by simp)
       simp -implicitDefEqProofs only [go_sem] at hp hA hS hC fin' himp
       simp -implicitDefEqProofs only [go_sem,hk2,hk3,ilt hk,zH hk,ro,hp,hA,hil,hil0,hil1,himp,hew3,hesl0,hrl,false_and,if_false,e2,t1,t2,t3,t4,t5,u12,u13,u14,u15,u21,u23,u24,u25,u31,u32,u34,u41,u42,u43,u45,us,l1,l2,l3,l4,lenτ,hew,hew2,hesl,hka,hd1,hS,hC,ye,yd,hw,yc,yh,yl]
       refine fin' _ (hI.step hkn hm1 _ ?_ ?_ ?_ ?_ ?_)
       ·first | exact lenτ | (simp only [yc]; exact lenτ)
       ·rw [yb (by first | omega | (simp only [yc]; omega))]
        try simp only [yq]
       ·intro i i1 i2
        have:=t6 i i1 i2
        repeat rw [ya (by omega)]
        exact this
       ·repeat rw [ya (by omega)]
        exact t3
       ·repeat rw [ya (by omega)]
        rw [yb (by first | omega | (simp only [yc]; omega))]
        try simp
     ·have hpos : (0 < l.length + imp.length) = True:=eq_true (by omega)
      have hlm : (l.length + imp.length ≤ LIM) = True:=eq_true (by unfold LIM; omega)
      have htk : (l.map zi).take l.length = l.map zi:=yv (by simp)
      have hcc : l.map zi ++ (imp.map ri).map (fun e => e.map C.f) = (l ++ imp).map zi:=by simp [zi,ri,Function.comp_def]
      have hew2 : ((es.set k [.own (1 + k) l.length 0 l.length]).set k [.own (1 + k) (l.length + 1) 0 (l.length + imp.length)])[k]? = some [C.own (1 + k) (l.length + 1) 0 (l.length + imp.length)]:=yb (by rw [yc]; omega)
      have hS:=fun ρ h => zmF (l ++ imp) (l.length + imp.length) (by simp) (by omega) ρ (1 + k) (l.length + 1) h
      have hC:=fun ρ h => zfZ (zbG (l ++ imp)) (l.length + imp.length) (by simp [zbG]) (by omega) ρ (1 + k) (l.length + 1) h
      by_cases e2 : 0 < b.ops[k].dst
      ·have ed : zcn D k b.ops[k] = zh7 b.ops[k].dst (k : Int) D:=by unfold zcn; rw [if_pos e2]
       have hpm:=zwz b.ops[k].dst (k : Int) D
       rw [ed]
       have fin':=fun (τ' : zb) => fin (zh7 b.ops[k].dst (k : Int) D) (imp ++ [(k : Int)]) (zq (zbG (l ++ imp))) τ' (by simp; omega)
       simp -implicitDefEqProofs only [go_sem] at hp hA hS hC hpm fin' himp
       simp -implicitDefEqProofs only [go_sem,hk2,hk3,ilt hk,zH hk,ro,hp,hA,hil,himp,hok,hpos,hlm,htk,hcc,e2,hpm,t1,t2,t3,t4,t5,u12,u13,u14,u15,u21,u23,u24,u25,u31,u32,u34,u41,u42,u43,u45,us,l1,l2,l3,l4,lenτ,hew,hew2,hesl,hka,hd1,hS,hC,ye,yd,hw,yc,yh,yl]
       refine fin' _ (hI.step hkn hm1 _ ?_ ?_ ?_ ?_ ?_)
       ·first | exact lenτ | (simp only [yc]; exact lenτ)
       ·rw [yb (by first | omega | (simp only [yc]; omega))]
        try simp only [yq]
       ·intro i i1 i2
        have:=t6 i i1 i2
        repeat rw [ya (by omega)]
        exact this
       ·repeat rw [ya (by omega)]
        exact yb (by first | omega | (simp only [yc]; omega))
       ·repeat rw [ya (by omega)]
        rw [yb (by first | omega | (simp only [yc]; omega))]
        try simp
      ·have ed : zcn D k b.ops[k] = D:=by unfold zcn; rw [if_neg e2]
       rw [ed]
       have fin':=fun (τ' : zb) => fin (D) (imp ++ [(k : Int)]) (zq (zbG (l ++ imp))) τ' (by simp; omega)
       simp -implicitDefEqProofs only [go_sem] at hp hA hS hC fin' himp
       simp -implicitDefEqProofs only [go_sem,hk2,hk3,ilt hk,zH hk,ro,hp,hA,hil,himp,hok,hpos,hlm,htk,hcc,e2,t1,t2,t3,t4,t5,u12,u13,u14,u15,u21,u23,u24,u25,u31,u32,u34,u41,u42,u43,u45,us,l1,l2,l3,l4,lenτ,hew,hew2,hesl,hka,hd1,hS,hC,ye,yd,hw,yc,yh,yl]
       refine fin' _ (hI.step hkn hm1 _ ?_ ?_ ?_ ?_ ?_)
       ·first | exact lenτ | (simp only [yc]; exact lenτ)
       ·rw [yb (by first | omega | (simp only [yc]; omega))]
        try simp only [yq]
       ·intro i i1 i2
        have:=t6 i i1 i2
        repeat rw [ya (by omega)]
        exact this
       ·repeat rw [ya (by omega)]
        exact t3
       ·repeat rw [ya (by omega)]
        rw [yb (by first | omega | (simp only [yc]; omega))]
        try simp
end
end AC
namespace AC
open Go Go.A Go.A.Lex
theorem zsq : ∀ (rows : List (List Int)) (es : List (List C)),es.length = rows.length → (∀ i (h : i < rows.length),es[i]? = some [.f (.sl (rows[i].map ri))]) → zX es = some (rows.map rl)
 | [],[],_,_ => rfl
 | [],_ :: _,h,_ => by simp at h
 | _ :: _,[],h,_ => by simp at h
 | l :: rows,e :: es,h,hi => by
   have h0:=hi 0 (by simp)
   simp only [yi,Option.some.injEq,List.getElem_cons_zero] at h0
   have ih:=zsq rows es (by simpa using h) fun i hl => by have:=hi (i + 1) (by simpa using hl); simpa using this
   subst h0
   simp [zX,ih,zbt,zpI,zde,rl]
section
variable (b : PBlock) (hb : okB b) (hs : ∀ o ∈ b.ops,o.args.length ≤ 64) (n : Nat) (hn : n = b.ops.length) (hn2 : n ≤ 1000)
include hb hs hn hn2
theorem zs8 : call T 67 [zk4 b] [] = some (vLs (zgI b),[]):=by
 rw [ze (fn:=zgt) rfl]
 have hlim : ((n : Int) ≤ (LIM : Int)) = True:=by simp; unfold LIM; omega
 have hln : (b.ops.length : Int) = n:=by rw [hn]
 have a1 : 1 + n = n + 1:=yG 1 n
 have a2 : n + 1 + 1 = n + 2:=rfl
 have a3 : n + 2 + 1 = n + 3:=rfl
 have h0 : HG n 0 [] [] [] (Ob.cells 0 5 [zw b] :: (List.replicate n (Ob.cells 0 1 []) ++ [Ob.cells 0 1 (yK (zm8 1 [C.f (Fz.sl [])] 0) (yJ n)),Ob.mp [],Ob.tok 1 [0]])):=by
  refine ⟨by simp,by simp,rfl,⟨yK (zm8 1 [C.f (Fz.sl [])] 0) (yJ n),?_,by simp,fun i hi => by simp at hi,fun i _ hi => ?_⟩,fun i _ hi => ?_,?_,?_⟩
  ·rw [yk,ym (by simp)]
   simp
  ·simp [hi,zm8]
  ·rw [yG,yk,ys (by rw [yx]; exact hi),List.getElem?_replicate,if_pos hi]
  ·rw [yk,ym (by simp)]
   simp [zgu]
  ·rw [yk,ym (by simp)]
   simp
 have he:=fun a0 a1 a2 a6 a7 a8 a9 a10 a14 a15 a16 a17 a18 a19 a20 a21 => zvL b hb hs n hn hn2 n 0 [] [] [] _ a0 a1 a2 a6 a7 a8 a9 a10 a14 a15 a16 a17 a18 a19 a20 a21 (by omega) (by omega) (by simp) h0
 simp only [Int.natCast_zero] at he
 obtain ⟨σ',hI,h⟩:=he (zk4 b) (.one (.ptr 0 0 0 0)) (vL []) vU vU vU vU vU vU vU vU vU vU vU vU vU
 rw [yE,yA] at hI
 have eS : zbZ 0 [] [] b.ops = zgI b:=rfl
 rw [eS] at hI
 obtain ⟨es,hm1,hm2,hm3⟩:=hI.main
 have hrl:=hI.rlen
 have hf:=zsq (zgI b) es (by omega) hm3
 have ht : es.take n = es:=yv (by omega)
 have hd : es.drop 0 = es:=rfl
 have hlen2:=hI.len2
 have hps : (σ'.length ≤ 0) = False:=eq_false (by omega)
 simp -implicitDefEqProofs only [go_sem] at h
 simp -implicitDefEqProofs only [go_sem,zgt,hln,hlim,ye,yd,yh,yx,yC,List.length_nil,a1,a2,a3,h,hm1,hf,ht,hd,hps]
end
end AC
namespace AC
open Go Go.A Go.A.Lex
def zpj (D : zuH) (done : List Int) : Prop:=∀ x,zgR D x = decide (x ∈ done)
theorem zpj.nil : zpj [] []:=fun x => by simp [zgR,getM]
theorem zpj.put {D : zuH} {done : List Int} (h : zpj D done) (x : Int) : zpj (zh7 x true D) (done ++ [x]):=fun y => by
 have hy:=h y
 unfold zgR at hy ⊢
 rw [zrS]
 by_cases c : x = y
 ·rw [if_pos c]; simp [c]
 ·rw [if_neg c,hy]
  have : (y ∈ done ++ [x]) ↔ y ∈ done:=by simp; exact fun e => absurd e.symm c
  rw [Bool.eq_iff_iff,decide_eq_true_eq,decide_eq_true_eq,this]
theorem zpj.all {D : zuH} {done : List Int} (h : zpj D done) (l : List Int) : l.all (zgR D) = l.all fun y => decide (y ∈ done):=by
 congr 1
 exact funext h
section
variable (b : PBlock) (n : Nat) (hn : n = b.ops.length) (hn2 : n ≤ 1000) (on : List (List Int)) (hon : on.length = n) (hol : ∀ l ∈ on,l.length ≤ 4294967296) (order : List Int) (ho : order.length = n)
include hn hn2 hon hol ho
theorem zwS : ∀ (d k : Nat) (D : zuH) (done : List Int),n - k = d → k ≤ n → zpj D done → ∃ D' : zuH,∀ (a0 a1 a3 a6 a7 a11 a12 : V),
  exec T zaM ⟨[a0,a1,.one (.ptr 0 0 0 0),a3,.one (.map 1),vLs on,a6,a7,vIs order,vI n,vI k,a11,a12],[.cells 0 5 [zw b],.mp (zgu vBo D)],0,0⟩ =
   some (if zdD on n done (order.drop k) = true then (.exit 0,⟨[vU,vU,vU,vU,vU,vU,vU,vU,vU,vU,vU,vU,vU],[.cells 0 5 [zw b],.mp (zgu vBo D')],0,0⟩) else (.ret,⟨[vU,vU,vU,vB false,vU,vU,vU,vU,vU,vU,vU,vU,vU],[.cells 0 5 [zw b],.mp (zgu vBo D')],0,0⟩)):=by
 intro d
 induction d with
 | zero =>
   intro k D done h1 h2 h3
   have hk : k = n:=by omega
   subst hk
   refine ⟨D,fun a0 a1 a3 a6 a7 a11 a12 => ?_⟩
   have e : order.drop k = []:=by simp [ho]
   rw [xl zaM rfl,zbp,e,zdD,if_pos rfl]
   simp -implicitDefEqProofs only [go_sem,yF,zoo]
 | succ d ih =>
   intro k D done h1 h2 h3
   have hk : k < order.length:=by omega
   have hdk : order.drop k = order[k] :: order.drop (k + 1):=yr hk
   have hlk : ((k : Int) < (n : Int)) = True:=by simp; omega
   have hln : (b.ops.length : Int) = n:=by rw [hn]
   rw [hdk,zdD]
   by_cases c1 : order[k] < 0
   ·refine ⟨D,fun a0 a1 a3 a6 a7 a11 a12 => ?_⟩
    have c1' : ¬ 0 ≤ order[k]:=by omega
    rw [decide_eq_false c1',yj,yj,if_neg (by simp),xl zaM rfl,zbp]
    simp -implicitDefEqProofs only [go_sem,hlk,c1,zH hk,ri,zoo]
   have c1' : 0 ≤ order[k]:=by omega
   by_cases c2 : (n : Int) ≤ order[k]
   ·refine ⟨D,fun a0 a1 a3 a6 a7 a11 a12 => ?_⟩
    have c2' : ¬ order[k] < (n : Int):=by omega
    rw [decide_eq_false c2',yj,Bool.and_false,yj,if_neg (by simp),xl zaM rfl,zbp]
    simp -implicitDefEqProofs only [go_sem,hlk,c1,c2,hln,zH hk,ri,zoo]
   have c2' : order[k] < (n : Int):=by omega
   have hg:=zyM order[k] D
   have hw:=h3 order[k]
   rw [decide_eq_true c1',decide_eq_true c2',yp,yp]
   by_cases c3 : order[k] ∈ done
   ·refine ⟨D,fun a0 a1 a3 a6 a7 a11 a12 => ?_⟩
    rw [decide_eq_true c3] at hw ⊢
    have hg' : getM order[k] D = some true:=by
     unfold zgR at hw
     cases e : getM order[k] D with
     | none => rw [e] at hw; cases hw
     | some v => rw [e] at hw; exact congrArg some hw
    rw [hg'] at hg
    rw [show (!true) = false from rfl,yj,yj,if_neg (by simp),xl zaM rfl,zbp]
    simp -implicitDefEqProofs only [go_sem,vBo] at hg
    simp -implicitDefEqProofs only [go_sem,hlk,c1,c2,hln,zH hk,ri,hg,zoo]
   rw [decide_eq_false c3] at hw ⊢
   have hpick : zfj order[k] (zgu vBo D) = none ∨ zfj order[k] (zgu vBo D) = some (vBo false):=by
    rw [hg]
    unfold zgR at hw
    cases e : getM order[k] D with
    | none => exact .inl rfl
    | some v => rw [e] at hw; right; simp only [Option.getD_some] at hw; rw [hw]; rfl
   have hrow : on[order[k].toNat]? = some (on.getD order[k].toNat []):=by rw [yn,yg (by omega)]; rfl
   have hrl : (on.getD order[k].toNat []).length ≤ 4294967296:=hol _ (List.mem_of_getElem? hrow)
   have hs:=zrs [.cells 0 5 [zw b],.mp (zgu vBo D)] 1 D rfl (by unfold Ok; simp -implicitDefEqProofs only [go_sem,zoo]) (on.getD order[k].toNat []) hrl
   rw [h3.all] at hs
   rw [show (!false) = true from rfl,yp]
   cases c4 : ((on.getD order[k].toNat []).all fun y => decide (y ∈ done)) with
   | false =>
     refine ⟨D,fun a0 a1 a3 a6 a7 a11 a12 => ?_⟩
     rw [c4] at hs
     rw [yj,if_neg (by simp),xl zaM rfl,zbp]
     simp -implicitDefEqProofs only [go_sem] at hs
     rcases hpick with hpick | hpick
     ·simp -implicitDefEqProofs only [go_sem,hlk,c1,c1',c2,hln,zH hk,ri,rl,yf,hrow,hpick,hs,zoo]
     ·simp -implicitDefEqProofs only [go_sem,vBo] at hpick
      simp -implicitDefEqProofs only [go_sem,hlk,c1,c1',c2,hln,zH hk,ri,rl,yf,hrow,hpick,hs,zoo]
   | true =>
     rw [c4] at hs
     rw [yp]
     obtain ⟨D',ih'⟩:=ih (k + 1) (zh7 order[k] true D) (done ++ [order[k]]) (by omega) (by omega) (h3.put _)
     refine ⟨D',fun a0 a1 a3 a6 a7 a11 a12 => ?_⟩
     have hp:=zAk order[k] true D
     have:=ih' vU vU vU vU vU vU vU
     rw [xl zaM rfl,zbp]
     simp -implicitDefEqProofs only [go_sem] at hs this
     rcases hpick with hpick | hpick
     ·simp -implicitDefEqProofs only [go_sem,hlk,c1,c1',c2,hln,zH hk,ri,rl,yf,hrow,hpick,hp,hs,zoo,zd hk (show order.length ≤ 4294967296 by omega),this]
     ·simp -implicitDefEqProofs only [go_sem,vBo] at hpick
      simp -implicitDefEqProofs only [go_sem,hlk,c1,c1',c2,hln,zH hk,ri,rl,yf,hrow,hpick,hp,hs,zoo,zd hk (show order.length ≤ 4294967296 by omega),this]
end
end AC
namespace AC
open Go Go.A Go.A.Lex
theorem zpF (ops : List POp) (a : Nat) : (zi3 ops a).length ≤ a:=by
 unfold zi3
 rw [yl]
 exact yB (List.length_filter_le _ _) (by simp)
theorem zrm {b : PBlock} (h1 : OneDef b.ops) (hn : b.ops.length ≤ 1000) : ∀ l ∈ zgI b,l.length ≤ 1000:=fun l hl => by
 rw [zsj h1] at hl
 obtain ⟨a,ha,rfl⟩:=List.mem_map.1 hl
 have:=zpF b.ops a
 have:=List.mem_range.1 ha
 omega
theorem zpe (b : PBlock) : (zgI b).length = b.ops.length:=by unfold zgI; exact zgA _ _ _ _
section
variable (b : PBlock) (hb : okB b) (h1 : OneDef b.ops) (hs : ∀ o ∈ b.ops,o.args.length ≤ 64) (hn2 : b.ops.length ≤ 1000)
include hb h1 hs hn2
theorem ztc (order : List Int) (hol : order.length ≤ 4294967296) : call T 65 [zk4 b,vIs order] [] = some (vB (znY b order),[]):=by
 rw [ze (fn:=zdh) rfl]
 have hc:=zs8 b hb hs b.ops.length rfl hn2
 simp -implicitDefEqProofs only [go_sem] at hc
 unfold znY
 by_cases c : order.length = b.ops.length
 ·have c' : (order.length : Int) = (b.ops.length : Int):=by omega
  obtain ⟨D',h⟩:=zwS b b.ops.length rfl hn2 (zgI b) (zpe b) (fun l hl => yB (zrm h1 hn2 l hl) (by omega)) order c b.ops.length 0 [] [] (by omega) (by omega) zpj.nil
  rw [yA] at h
  rw [decide_eq_true c,yp]
  cases e : zdD (zgI b) b.ops.length [] order with
  | true =>
    simp -implicitDefEqProofs only [go_sem,e,zgu,yI] at h
    simp -implicitDefEqProofs only [go_sem,zdh,c,hc,h]
  | false =>
    rw [e] at h
    simp -implicitDefEqProofs only [go_sem,zgu,yI,if_neg Bool.false_ne_true] at h
    simp -implicitDefEqProofs only [go_sem,zdh,c,hc,h]
 ·have c' : ¬ (order.length : Int) = (b.ops.length : Int):=by omega
  rw [decide_eq_false c,yj]
  simp -implicitDefEqProofs only [go_sem,zdh,c,c']
end
def zhe (f : PFunc) (k : Int) (order : List Int) : Bool:=zgg f k && (match f.blocks[k.toNat]? with | some b => znY b order | none => false)
theorem zlg (f : PFunc) (hf : okF f) (k : Int) (order : List Int) (hol : order.length ≤ 4294967296) : call T 20 [zgP f,vI k,vIs order] [] = some (vB (zhe f k order),[]):=by
 rw [ze (fn:=zd5) rfl]
 have hr:=zlb f hf k
 unfold zhe
 cases e : zgg f k with
 | false =>
   rw [e] at hr
   simp -implicitDefEqProofs only [go_sem] at hr
   rw [yj]
   simp -implicitDefEqProofs only [go_sem,zd5,hr]
 | true =>
   obtain ⟨q1,q2,q3⟩:=zfI.1 e
   have hk : k.toNat < f.blocks.length:=by omega
   have hb : f.blocks[k.toNat]? = some f.blocks[k.toNat]:=yg hk
   have hm:=yw hk
   have hl:=ztc f.blocks[k.toNat] (hf.block _ hm) (q3.oneDef hm) (q3.size hm).2 (q3.size hm).1 order hol
   rw [e] at hr
   rw [hb,yp]
   simp -implicitDefEqProofs only [go_sem] at hr hl
   simp -implicitDefEqProofs only [go_sem,zd5,hr,q1,zH hk,rb,yf,hb,hl]
end AC
namespace AC
open Go Go.A
theorem zeu (i : Int) (u : Use) : ∀ (l : List POp) (k : Nat),u ∈ zad i k l ↔ ∃ j o,l[j]? = some o ∧ u ∈ zqs o i ((k + j : Nat) : Int)
 | [],k => by simp [zad]
 | o :: l,k => by
   rw [zad,yt,zeu i u l (k + 1)]
   constructor
   ·rintro (h | ⟨j,x,h1,h2⟩)
    ·exact ⟨0,o,rfl,h⟩
    ·exact ⟨j + 1,x,by simpa using h1,by rwa [show k + (j + 1) = k + 1 + j by omega]⟩
   ·rintro ⟨j,x,h1,h2⟩
    cases j with
    | zero =>
      simp only [yi,Option.some.injEq] at h1
      subst h1
      exact .inl h2
    | succ j => exact .inr ⟨j,x,by simpa using h1,by rwa [show k + 1 + j = k + (j + 1) by omega]⟩
theorem zcv (f : PFunc) (u : Use) : ∀ (l : List PBlock) (k : Nat),u ∈ zcF f k l ↔ ∃ j b,l[j]? = some b ∧ u ∈ zfu f ((k + j : Nat) : Int) b
 | [],k => by simp [zcF]
 | b :: l,k => by
   rw [zcF,yt,zcv f u l (k + 1)]
   constructor
   ·rintro (h | ⟨j,x,h1,h2⟩)
    ·exact ⟨0,b,rfl,h⟩
    ·exact ⟨j + 1,x,by simpa using h1,by rwa [show k + (j + 1) = k + 1 + j by omega]⟩
   ·rintro ⟨j,x,h1,h2⟩
    cases j with
    | zero =>
      simp only [yi,Option.some.injEq] at h1
      subst h1
      exact .inl h2
    | succ j => exact .inr ⟨j,x,by simpa using h1,by rwa [show k + 1 + j = k + (j + 1) by omega]⟩
theorem zfH (i : Int) (d : Use) : ∀ (l : List POp) (k : Nat),d ∈ zb2 i k l ↔ ∃ j o,l[j]? = some o ∧ 0 < (zY o).1 ∧ d = ⟨o.dst,zY o,i,((k + j : Nat) : Int)⟩
 | [],k => by simp [zb2]
 | o :: l,k => by
   have ih:=zfH i d l (k + 1)
   rw [zb2]
   constructor
   ·intro h
    have key : d ∈ zb2 i (k + 1) l → ∃ j x,(o :: l)[j]? = some x ∧ 0 < (zY x).1 ∧ d = ⟨x.dst,zY x,i,((k + j : Nat) : Int)⟩:=fun h => by
     obtain ⟨j,x,h1,h2,h3⟩:=ih.1 h
     exact ⟨j + 1,x,by simpa using h1,h2,by rw [h3,show k + (j + 1) = k + 1 + j by omega]⟩
    split at h
    ·rename_i c
     rcases yy.1 h with h | h
     ·exact ⟨0,o,rfl,c,h⟩
     ·exact key h
    ·exact key h
   ·rintro ⟨j,x,h1,h2,h3⟩
    cases j with
    | zero =>
      simp only [yi,Option.some.injEq] at h1
      subst h1
      rw [if_pos h2]
      exact yy.2 (.inl h3)
    | succ j =>
      have:=ih.2 ⟨j,x,by simpa using h1,h2,by rw [h3,show k + (j + 1) = k + 1 + j by omega]⟩
      split
      ·exact yz _ this
      ·exact this
theorem zb5 (d : Use) : ∀ (l : List PBlock) (k : Nat),d ∈ zJ k l ↔ ∃ j b,l[j]? = some b ∧ (d ∈ zeA ((k + j : Nat) : Int) b.phis ∨ d ∈ zb2 ((k + j : Nat) : Int) 0 b.ops)
 | [],k => by simp [zJ]
 | b :: l,k => by
   rw [zJ,yt,yt,zb5 d l (k + 1)]
   constructor
   ·rintro (h | h | ⟨j,x,h1,h2⟩)
    ·exact ⟨0,b,rfl,.inl h⟩
    ·exact ⟨0,b,rfl,.inr h⟩
    ·exact ⟨j + 1,x,by simpa using h1,by rwa [show k + (j + 1) = k + 1 + j by omega]⟩
   ·rintro ⟨j,x,h1,h2⟩
    cases j with
    | zero =>
      simp only [yi,Option.some.injEq] at h1
      subst h1
      rcases h2 with h2 | h2
      ·exact .inl h2
      ·exact .inr (.inl h2)
    | succ j => exact .inr (.inr ⟨j,x,by simpa using h1,by rwa [show k + 1 + j = k + (j + 1) by omega]⟩)
theorem zdC {o : POp} {i at' : Int} {u : Use} : ∀ (l : List (Int × Int)) (k : Nat),u ∈ zM o i at' k l → u.block = i ∧ u.at' = at' ∧ ∃ j,j < k + l.length ∧ u.v = o.args.getD j 0
 | [],_,h => by simp [zM] at h
 | s :: l,k,h => by
   rw [zM] at h
   rcases yy.1 h with rfl | h
   ·exact ⟨rfl,rfl,k,by simp,rfl⟩
   ·obtain ⟨h1,h2,j,h3,h4⟩:=zdC l (k + 1) h
    exact ⟨h1,h2,j,by simp only [yC]; omega,h4⟩
theorem zmS {o : POp} {i a b : Int} : ∀ (l : List (Int × Int)) (k : Nat) {u : Use},u ∈ zM o i a k l → (⟨u.v,u.shape,u.block,b⟩ : Use) ∈ zM o i b k l
 | [],_,_,h => by simp [zM] at h
 | s :: l,k,u,h => by
   rw [zM] at h ⊢
   rcases yy.1 h with rfl | h
   ·exact List.mem_cons_self
   ·exact yz _ (zmS l (k + 1) h)
def zcX (ops : List POp) (order : List Int) : List POp:=order.map fun a => ops.getD a.toNat op0
def zfi (b : PBlock) (order : List Int) : PBlock:=⟨b.phis,zcX b.ops order,b.kind,b.arg,b.to⟩
def zh4 (f : PFunc) (k : Nat) (order : List Int) : PFunc:=match f.blocks[k]? with
 | some b => ⟨f.params,f.ret,f.blocks.set k (zfi b order)⟩
 | none => f
theorem zhl (ops : List POp) (order : List Int) : (zcX ops order).length = order.length:=by simp [zcX]
theorem zo8 (ops : List POp) : zcX ops (ints ops.length) = ops:=by
 refine List.ext_getElem (by simp [zcX,ints]) fun i h1 h2 => ?_
 simp only [zcX,ints,List.getElem_map,List.getElem_range]
 show ops.getD ((i : Int)).toNat op0 = _
 rw [yd,yn,yg h2]; rfl
theorem zhH {ops : List POp} {order : List Int} (h : LegalP ops order) : (zcX ops order).Perm ops:=by
 have:=h.perm.map fun a => ops.getD a.toNat op0
 exact this.trans (by rw [show (ints ops.length).map (fun a : Int => ops.getD a.toNat op0) = zcX ops (ints ops.length) from rfl,zo8])
theorem zx7 {ops : List POp} {order : List Int} (h : LegalP ops order) {i : Nat} {o : POp} (hi : (zcX ops order)[i]? = some o) : ∃ (hl : i < order.length) (h2 : order[i].toNat < ops.length),ops[order[i].toNat]? = some o ∧ ((order[i].toNat : Nat) : Int) = order[i]:=by
 unfold zcX at hi
 rw [yf] at hi
 cases e : order[i]? with
 | none => rw [e] at hi; cases hi
 | some a =>
   rw [e] at hi
   obtain ⟨hl,ha⟩:=yu.1 e
   have hr:=h.range _ (yw hl)
   refine ⟨hl,by omega,?_,by omega⟩
   simp only [Option.map_some,Option.some.injEq] at hi
   rw [ha]
   rw [ha] at hr
   rw [yn,yg (by omega)] at hi
   rw [yg (by omega)]
   exact congrArg some hi
section
variable {f : PFunc} {k : Nat} {b : PBlock} (hb : f.blocks[k]? = some b) (order : List Int)
include hb
theorem ziN : zh4 f k order = ⟨f.params,f.ret,f.blocks.set k (zfi b order)⟩:=by unfold zh4; rw [hb]
theorem zeC (j : Nat) : (zh4 f k order).blocks[j]? = if j = k then some (zfi b order) else f.blocks[j]?:=by
 rw [ziN hb]
 have hk:=(yu.1 hb).1
 by_cases c : j = k
 ·subst c; rw [if_pos rfl]; exact yb hk
 ·rw [if_neg c]; exact ya (fun h => c h.symm)
theorem zeT : (zh4 f k order).blocks.length = f.blocks.length:=by rw [ziN hb]; exact yc
theorem zlB {α : Type} (g : PBlock → α) (hg : g (zfi b order) = g b) : (zh4 f k order).blocks.map g = f.blocks.map g:=by
 refine List.ext_getElem? fun j => ?_
 rw [yf,yf,zeC hb]
 by_cases c : j = k
 ·subst c; rw [if_pos rfl,hb]; exact congrArg some hg
 ·rw [if_neg c]
theorem zlP : zI (zh4 f k order) = zI f:=by
 unfold zI
 exact zlB hb order _ rfl
end
theorem znU {α : Type} (p : α → Bool) (l : List α) : l.all p = (l.map p).all id:=by simp [List.all_map]
theorem zgG (pred : List (List Int)) (reach : List Bool) : ∀ (l l' : List PBlock) (i : Nat),l.length = l'.length → (∀ (j : Nat) (b b' : PBlock),l[j]? = some b → l'[j]? = some b' → b.phis = b'.phis ∧ zdm b = zdm b') → zbB pred reach i l = zbB pred reach i l'
 | [],[],_,_,_ => rfl
 | [],_ :: _,_,h,_ => by simp at h
 | _ :: _,[],_,h,_ => by simp at h
 | b :: l,b' :: l',i,h,hs => by
   obtain ⟨h1,h2⟩:=hs 0 b b' rfl rfl
   rw [zbB,zbB,zgG pred reach l l' (i + 1) (by simpa using h) fun j c c' hc hc' => hs (j + 1) c c' (by simpa using hc) (by simpa using hc')]
   unfold zkt
   rw [h1,h2]
end AC
namespace AC
open Go Go.A
def LB : Nat:=140737488351232
structure anyB (b : PBlock) : Prop where
 phis : b.phis.length ≤ LB
 ops : b.ops.length ≤ LB
 phi : ∀ p ∈ b.phis,p.src.length ≤ LB ∧ p.args.length ≤ LB
 op : ∀ o ∈ b.ops,(0 ≤ o.imm ∧ o.imm < 18446744073709551616) ∧ o.args.length ≤ LB
 to : b.to.length ≤ LB
structure anyF (f : PFunc) : Prop where
 params : f.params.length ≤ LB
 blocks : f.blocks.length ≤ LB
 block : ∀ b ∈ f.blocks,anyB b
theorem zrw {n : Nat} (h : n ≤ 9223372036854775807) : Go.IntKind.i64.wrap (n : Int) = (n : Int):=wrap_i64 (by omega) (by omega)
theorem zhV {k n : Nat} (h : k < n) (h' : n ≤ LB) : Go.IntKind.i64.wrap ((k : Int) + 1) = ((k + 1 : Nat) : Int):=by
 unfold LB at h'
 rw [wrap_i64] <;> omega
end AC

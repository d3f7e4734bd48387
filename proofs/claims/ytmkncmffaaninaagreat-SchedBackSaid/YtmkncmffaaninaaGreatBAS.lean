/- A part of the proof of SchedBack. Conditions: none. -/
import Derived.Test.YtmkncmffaaninaaGreatBAR
set_option linter.unusedVariables false
set_option linter.unusedSimpArgs false
set_option linter.unusedSectionVars false
open List renaming drop_eq_getElem_cons → ya,find?_cons → yc,length_map → yd,getElem?_eq_some_iff → ye,drop_length → yf,replicate → yg,take_of_length_le → yh,all_cons → yi,set_append_right → yk,all_nil → ym,map_cons → yn,map_nil → yp,getElem_mem → yq,take_succ_cons → ys,drop_zero → yt,take_append → yv,find?_nil → yx,sum_cons → yy
open Bool renaming and_eq_true → yb,and_true → yo,or_eq_false_iff → yr,not_eq_true' → yu,or_eq_true → yw
open Int renaming natCast_zero → yj,lt_irrefl → yl
namespace AC
open Go Go.A Go.A.Lex
def arith (k : Int) : Bool:=decide (k = 1) || decide (k = 2) || decide (k = 3) || decide (k = 5) || decide (k = 6) || decide (k = 7) || decide (k = 8) || decide (k = 9)
def asks (k : Int) : Bool:=decide (k = 4) || decide (k = 10) || decide (k = 11) || decide (k = 12)
def zAf (o : POp) : Prop:=0 ≤ o.imm ∧ o.imm < 18446744073709551616
def za0 (o : POp) : List (Int × Int) × Bool :=
 let own:=(o.bits,o.lanes)
 if o.kind = 0 then ([],decide (zBp o.imm o.bits = o.imm))
 else if arith o.kind then ([own,own],decide (o.imm = 0))
 else if asks o.kind then ([own,own],decide (o.imm = 0) && decide (o.lanes = 1))
 else if o.kind = 13 then ([(1,1),own,own],decide (o.imm = 0))
 else if o.kind = 14 then ([(min o.imm 128,1)],decide (o.lanes = 1) && (decide (o.imm < o.bits) && zjg o.imm))
 else if o.kind = 15 then ([(min o.imm 128,1)],decide (o.lanes = 1) && (decide (o.bits < o.imm) && (decide (o.imm ≤ 64) && zjg o.imm)))
 else if o.kind = 16 then ([(64,1)],decide (o.imm = 0) && decide (8 ≤ o.bits))
 else if o.kind = 17 then ([(64,1),own],decide (o.imm = 0) && decide (8 ≤ o.bits))
 else if o.kind = 18 ∨ o.kind = 19 then ([(1,1),(64,1),own],decide (o.imm = 0) && (decide (o.lanes = 1) && decide (8 ≤ o.bits)))
 else if o.kind = 20 then ([(1,1),own,own,own],decide (o.imm = 0) && decide (o.lanes = 1))
 else if o.kind = 21 then (yg o.lanes.toNat (o.bits,1),decide (o.imm = 0) && !decide (o.lanes = 1))
 else if o.kind = 22 then ([own],!decide (o.lanes = 1) && decide (o.imm < o.lanes))
 else ([],false)
def zbK (o : POp) : V:=.tup [vSs (za0 o).1,vB (za0 o).2]
set_option maxHeartbeats 4000000
section
variable (o : POp) (hs : zeR o.bits o.lanes = true) (ho : zAf o)
include hs ho
theorem zzz (h : arith o.kind = true) : call T 252 [vOp o] [] = some (zbK o,[]):=by
 rw [ze (fn:=zj) rfl]
 obtain ⟨kind,bits,lanes,dst,args,imm⟩:=o
 have h':=h
 simp only [arith,yw,decide_eq_true_eq] at h h'
 rcases h' with ((((((rfl | rfl) | rfl) | rfl) | rfl) | rfl) | rfl) | rfl
 all_goals simp -implicitDefEqProofs only [go_sem,zj,zbK,za0,rs,arith,h]
theorem zzs (h : asks o.kind = true) : call T 252 [vOp o] [] = some (zbK o,[]):=by
 rw [ze (fn:=zj) rfl]
 obtain ⟨kind,bits,lanes,dst,args,imm⟩:=o
 have h':=h
 simp only [asks,yw,decide_eq_true_eq] at h h'
 by_cases c : imm = 0
 all_goals
  rcases h' with ((rfl | rfl) | rfl) | rfl
  all_goals simp -implicitDefEqProofs only [go_sem,zj,zbK,za0,rs,arith,asks,h,c]
theorem zzl (h1 : arith o.kind = false) (h2 : asks o.kind = false) : call T 252 [vOp o] [] = some (zbK o,[]):=by
 rw [ze (fn:=zj) rfl]
 obtain ⟨kind,bits,lanes,dst,args,imm⟩:=o
 obtain ⟨hm,hl⟩:=zqd hs
 simp only [arith,yr,decide_eq_false_iff_not] at h1
 simp only [asks,yr,decide_eq_false_iff_not] at h2
 obtain ⟨⟨⟨⟨⟨⟨⟨n1,n2⟩,n3⟩,n5⟩,n6⟩,n7⟩,n8⟩,n9⟩:=h1
 obtain ⟨⟨⟨n4,n10⟩,n11⟩,n12⟩:=h2
 dsimp only at *
 by_cases c0 : kind = 0
 ·subst c0
  have:=zpu imm bits ho.1 ho.2
  simp -implicitDefEqProofs only [go_sem] at this
  simp -implicitDefEqProofs only [go_sem,zj,zbK,za0,rs,this]
 by_cases c13 : kind = 13
 ·subst c13
  simp -implicitDefEqProofs only [go_sem,zj,zbK,za0,rs,arith,asks]
 have hmi : Go.IntKind.i64.wrap (min imm 128) = min imm 128:=wrap_i64 (by have:=ho.1; dsimp only at this; omega) (by omega)
 have hbu : Go.IntKind.u64.wrap bits = bits:=by
  have:=zfx hm
  exact wrap_u64 (by omega) (by omega)
 have hlu : Go.IntKind.u64.wrap lanes = lanes:=wrap_u64 (by omega) (by omega)
 by_cases c14 : kind = 14
 ·subst c14
  by_cases d1 : lanes = 1
  ·by_cases d2 : imm < bits
   ·have hii : Go.IntKind.i64.wrap imm = imm:=wrap_i64 (by have:=ho.1; dsimp only at this; omega) (by have:=zfx hm; omega)
    simp -implicitDefEqProofs only [go_sem,zj,zbK,za0,rs,arith,asks,d1,d2,hmi,hbu,hii]
   ·simp -implicitDefEqProofs only [go_sem,zj,zbK,za0,rs,arith,asks,d1,d2,hmi,hbu]
  ·simp -implicitDefEqProofs only [go_sem,zj,zbK,za0,rs,arith,asks,d1,hmi]
 by_cases c15 : kind = 15
 ·subst c15
  by_cases d1 : lanes = 1
  ·by_cases d2 : bits < imm
   ·by_cases d3 : imm ≤ 64
    ·have hii : Go.IntKind.i64.wrap imm = imm:=wrap_i64 (by have:=ho.1; dsimp only at this; omega) (by omega)
     simp -implicitDefEqProofs only [go_sem,zj,zbK,za0,rs,arith,asks,d1,d2,d3,hmi,hbu,hii]
    ·simp -implicitDefEqProofs only [go_sem,zj,zbK,za0,rs,arith,asks,d1,d2,d3,hmi,hbu]
   ·simp -implicitDefEqProofs only [go_sem,zj,zbK,za0,rs,arith,asks,d1,d2,hmi,hbu]
  ·simp -implicitDefEqProofs only [go_sem,zj,zbK,za0,rs,arith,asks,d1,hmi]
 by_cases c16 : kind = 16
 ·subst c16
  by_cases d1 : imm = 0 <;> simp -implicitDefEqProofs only [go_sem,zj,zbK,za0,rs,arith,asks,d1]
 by_cases c17 : kind = 17
 ·subst c17
  by_cases d1 : imm = 0 <;> simp -implicitDefEqProofs only [go_sem,zj,zbK,za0,rs,arith,asks,d1]
 by_cases c18 : kind = 18
 ·subst c18
  by_cases d1 : imm = 0 <;> by_cases d2 : lanes = 1 <;> simp -implicitDefEqProofs only [go_sem,zj,zbK,za0,rs,arith,asks,d1,d2]
 by_cases c19 : kind = 19
 ·subst c19
  by_cases d1 : imm = 0 <;> by_cases d2 : lanes = 1 <;> simp -implicitDefEqProofs only [go_sem,zj,zbK,za0,rs,arith,asks,d1,d2]
 by_cases c20 : kind = 20
 ·subst c20
  by_cases d1 : imm = 0 <;> simp -implicitDefEqProofs only [go_sem,zj,zbK,za0,rs,arith,asks,d1]
 by_cases c21 : kind = 21
 ·subst c21
  have hr:=zla (bits,1) lanes hl
  simp -implicitDefEqProofs only [go_sem,rs] at hr
  by_cases d1 : imm = 0 <;> simp -implicitDefEqProofs only [go_sem,zj,zbK,za0,rs,arith,asks,d1,hr,List.map_replicate]
 by_cases c22 : kind = 22
 ·subst c22
  by_cases d1 : lanes = 1
  ·simp -implicitDefEqProofs only [go_sem,zj,zbK,za0,rs,arith,asks,d1]
  ·simp -implicitDefEqProofs only [go_sem,zj,zbK,za0,rs,arith,asks,d1,hlu]
 simp -implicitDefEqProofs only [go_sem,zj,zbK,za0,rs,arith,asks,n1,n2,n3,n4,n5,n6,n7,n8,n9,n10,n11,n12,c0,c13,c14,c15,c16,c17,c18,c19,c20,c21,c22]
theorem znV : call T 252 [vOp o] [] = some (zbK o,[]):=by
 cases h1 : arith o.kind
 ·cases h2 : asks o.kind
  ·exact zzl o hs ho h1 h2
  ·exact zzs o hs ho h2
 ·exact zzz o hs ho h1
end
end AC
namespace AC
open Go Go.A Go.A.Lex
def zgE (o : POp) : Bool:=zeR o.bits o.lanes && ((za0 o).2 && ((if zii o.kind then decide (o.dst = 0) else value o.dst) && (decide ((za0 o).1.length = o.args.length) && !o.args.any fun v => !value v)))
@[go_sem] theorem zuI (v : Int) (σ : zb) : call T 254 [vI v] σ = some (vB (!value v),σ):=by
  rw [ze (fn:=zg8) rfl]
  simp -implicitDefEqProofs only [go_sem,zg8]
@[go_sem] theorem zf4 (o : POp) (ho : zAf o) (hl : o.args.length ≤ 4294967296) : call T 236 [vOp o] [] = some (vB (zgE o),[]):=by
  rw [ze (fn:=zbF) rfl]
  cases hs : zeR o.bits o.lanes
  ·simp -implicitDefEqProofs only [go_sem,zbF,zgE,hs]
  have ht:=znV o hs ho
  have hc:=fun σ => zV o.args (fun v => !value v) 254 [] [] σ hl (fun x _ => by simp -implicitDefEqProofs only [go_sem])
  simp -implicitDefEqProofs only [go_sem,zbK] at ht hc
  cases h1 : (za0 o).2
  ·cases h2 : zii o.kind
   ·simp -implicitDefEqProofs only [go_sem,zbF,zgE,hs,ht,h1,h2]
   ·simp -implicitDefEqProofs only [go_sem,zbF,zgE,hs,ht,h1,h2]
  ·cases h2 : zii o.kind
   ·cases h3 : value o.dst
    ·simp -implicitDefEqProofs only [go_sem,zbF,zgE,hs,ht,h1,h2,h3]
    ·by_cases h4 : (za0 o).1.length = o.args.length
     ·simp -implicitDefEqProofs only [go_sem,zbF,zgE,hs,ht,h1,h2,h3,h4,hc]
     ·have h4' : ¬ ((za0 o).1.length : Int) = (o.args.length : Int):=by omega
      simp -implicitDefEqProofs only [go_sem,zbF,zgE,hs,ht,h1,h2,h3,h4,h4']
   ·by_cases h3 : o.dst = 0
    ·by_cases h4 : (za0 o).1.length = o.args.length
     ·simp -implicitDefEqProofs only [go_sem,zbF,zgE,hs,ht,h1,h2,eq_true h3,h4,hc]
     ·have h4' : ¬ ((za0 o).1.length : Int) = (o.args.length : Int):=by omega
      simp -implicitDefEqProofs only [go_sem,zbF,zgE,hs,ht,h1,h2,eq_true h3,h4,h4']
    ·simp -implicitDefEqProofs only [go_sem,zbF,zgE,hs,ht,h1,h2,h3]
theorem ztW {o : POp} (h : zgE o = true) : zeR o.bits o.lanes = true:=by
 simp only [zgE,yb] at h
 exact h.1
def zbd (o : POp) : List (Int × Int):=if zgE o = true then (za0 o).1 else []
@[go_sem] theorem zlK (o : POp) (ho : zAf o) (hl : o.args.length ≤ 4294967296) : call T 238 [vOp o] [] = some (vSs (zbd o),[]):=by
  rw [ze (fn:=ze2) rfl]
  have hm:=zf4 o ho hl
  cases h : zgE o
  ·simp -implicitDefEqProofs only [go_sem,h] at hm
   simp -implicitDefEqProofs only [go_sem,ze2,hm,zbd,h]
  ·have ht:=znV o (ztW h) ho
   simp -implicitDefEqProofs only [go_sem,h,zbK] at hm ht
   simp -implicitDefEqProofs only [go_sem,ze2,hm,ht,zbd,h]
def zY (o : POp) : Int × Int :=
 if zgE o = false ∨ zii o.kind = true then (0,0) else if 10 ≤ o.kind ∧ o.kind ≤ 12 then (1,1) else if o.kind = 22 then (o.bits,1) else (o.bits,o.lanes)
@[go_sem] theorem zmI (o : POp) (ho : zAf o) (hl : o.args.length ≤ 4294967296) : call T 206 [vOp o] [] = some (.tup [vI (zY o).1,vI (zY o).2],[]):=by
  rw [ze (fn:=zbL) rfl]
  have hm:=zf4 o ho hl
  cases h : zgE o
  ·simp -implicitDefEqProofs only [go_sem,h] at hm
   simp -implicitDefEqProofs only [go_sem,zbL,hm,zY,h]
  ·simp -implicitDefEqProofs only [go_sem,h] at hm
   cases h1 : zii o.kind
   ·by_cases h2 : 10 ≤ o.kind
    ·by_cases h3 : o.kind ≤ 12
     ·simp -implicitDefEqProofs only [go_sem,zbL,hm,zY,h,h1,h2,h3]
     ·by_cases h4 : o.kind = 22
      ·simp -implicitDefEqProofs only [h4] at h1 hm h2 h3
       simp -implicitDefEqProofs only [go_sem,zbL,hm,zY,h,h1,h2,h3,h4]
      ·simp -implicitDefEqProofs only [go_sem,zbL,hm,zY,h,h1,h2,h3,h4,and_false]
    ·have h4 : ¬ o.kind = 22:=by omega
     simp -implicitDefEqProofs only [go_sem,zbL,hm,zY,h,h1,h2,h4,false_and]
   ·simp -implicitDefEqProofs only [go_sem,zbL,hm,zY,h,h1]
def impure (k : Int) : Bool:=decide (k = 4) || decide (k = 16) || decide (k = 17) || decide (k = 18) || decide (k = 19) || decide (k = 20)
def pure (k : Int) : Bool:=!impure k && (decide (0 ≤ k) && decide (k ≤ 22))
@[go_sem] theorem zne (k : Int) : call T 68 [vI k] [] = some (vB (pure k),[]):=by
  rw [ze (fn:=zbW) rfl]
  by_cases c1 : k = 4
  ·simp -implicitDefEqProofs only [go_sem,zbW,pure,impure,c1]
  by_cases c2 : k = 16
  ·simp -implicitDefEqProofs only [go_sem,zbW,pure,impure,c1,c2]
  by_cases c3 : k = 17
  ·simp -implicitDefEqProofs only [go_sem,zbW,pure,impure,c1,c2,c3]
  by_cases c4 : k = 18
  ·simp -implicitDefEqProofs only [go_sem,zbW,pure,impure,c1,c2,c3,c4]
  by_cases c5 : k = 19
  ·simp -implicitDefEqProofs only [go_sem,zbW,pure,impure,c1,c2,c3,c4,c5]
  by_cases c6 : k = 20
  ·simp -implicitDefEqProofs only [go_sem,zbW,pure,impure,c1,c2,c3,c4,c5,c6]
  by_cases c7 : 0 ≤ k <;> simp -implicitDefEqProofs only [go_sem,zbW,pure,impure,c1,c2,c3,c4,c5,c6,c7]
end AC
namespace AC
open Go Go.A Go.A.Lex
def num (n : Int) : Bool:=decide (0 ≤ n) && decide (n ≤ 2147483647)
@[go_sem] theorem zwW (n : Int) (σ : zb) : call T 192 [vI n] σ = some (vB (!num n),σ):=by
  rw [ze (fn:=zem) rfl]
  by_cases c : n < 0
  ·have c' : ¬ 0 ≤ n:=by omega
   simp -implicitDefEqProofs only [go_sem,zem,num,c,c']
  ·have c' : 0 ≤ n:=by omega
   by_cases d : 2147483647 < n
   ·have d' : ¬ n ≤ 2147483647:=by omega
    simp -implicitDefEqProofs only [go_sem,zem,num,c,c',d,d']
   ·have d' : n ≤ 2147483647:=by omega
    simp -implicitDefEqProofs only [go_sem,zem,num,c,c',d,d']
theorem zj6 {α : Type} (p : α → Bool) (l : List α) : (!l.any fun x => !p x) = l.all p:=by
 induction l with
 | nil => rfl
 | cons x r ih => simp only [List.any_cons,yi,← ih,Bool.not_or,Bool.not_not]
@[go_sem] theorem zdM (l : List Int) (hl : l.length ≤ 4294967296) : call T 152 [vIs l] [] = some (vB (l.all num),[]):=by
  rw [ze (fn:=zlJ) rfl]
  have hc:=fun σ => zV l (fun v => !num v) 192 [] [] σ hl (fun x _ => by simp -implicitDefEqProofs only [go_sem])
  simp -implicitDefEqProofs only [go_sem] at hc
  simp -implicitDefEqProofs only [go_sem,zlJ,hc,zj6]
theorem zoU (a : Int) : call T 152 [vL [[ei a]]] [] = some (vB (num a),[]):=by
 have:=zdM [a] (by simp)
 simpa only [vIs,yn,yp,ri,yi,ym,yo] using this
theorem zjs (a b : Int) : call T 152 [vL [[ei a],[ei b]]] [] = some (vB (num a && num b),[]):=by
 have:=zdM [a,b] (by simp)
 simpa only [vIs,yn,yp,ri,yi,ym,yo] using this
theorem zoI (a b c d : Int) : call T 152 [vL [[ei a],[ei b],[ei c],[ei d]]] [] = some (vB (num a && (num b && (num c && num d))),[]):=by
 have:=zdM [a,b,c,d] (by simp)
 simpa only [vIs,yn,yp,ri,yi,ym,yo] using this
def zgC (l : List Int) : Bool:=decide (l.length ≤ 64) && l.all num
theorem zmn (ls : List (List Int)) (hl : ls.length ≤ 4294967296) (hls : ∀ l ∈ ls,l.length ≤ 4294967296) : ∀ (d k : Nat) (a0 a1 a2 a6 a7 : V),ls.length - k = d → k ≤ ls.length →
  exec T zd2 ⟨[a0,a1,a2,vLs ls,vI ls.length,vI k,a6,a7],[],0,0⟩ =
   some (if (ls.drop k).all zgC = true then (.exit 0,⟨[vU,vU,vU,vU,vU,vU,vU,vU],[],0,0⟩) else (.ret,⟨[vU,vB false,vU,vU,vU,vU,vU,vU],[],0,0⟩)):=by
 intro d
 induction d with
 | zero =>
   intro k a0 a1 a2 a6 a7 h1 h2
   have hk : k = ls.length:=by omega
   subst hk
   rw [xl zd2 rfl,zfJ]
   simp -implicitDefEqProofs only [go_sem,yl,yf,ym]
 | succ d ih =>
   intro k a0 a1 a2 a6 a7 h1 h2
   have hk : k < ls.length:=by omega
   have hd : ls.drop k = ls[k] :: ls.drop (k + 1):=ya hk
   have hc:=zdM ls[k] (hls _ (yq hk))
   rw [xl zd2 rfl,zfJ,hd]
   by_cases c : ls[k].length ≤ 64
   ·have c' : ¬ (64 : Int) < (ls[k].length : Int):=by omega
    cases ha : ls[k].all num
    ·simp -implicitDefEqProofs only [go_sem,ha] at hc
     simp -implicitDefEqProofs only [go_sem,ilt hk,zH hk,rl,c',hc,zgC,c,ha]
    ·simp -implicitDefEqProofs only [go_sem,ha] at hc
     simp -implicitDefEqProofs only [go_sem,ilt hk,zH hk,rl,c',hc,zgC,c,ha,zd hk hl]
     exact ih (k + 1) _ _ _ _ _ (by omega) (by omega)
   ·have c' : (64 : Int) < (ls[k].length : Int):=by omega
    simp -implicitDefEqProofs only [go_sem,ilt hk,zH hk,rl,c',zgC,c]
theorem zhp (ls : List (List Int)) (hl : ls.length ≤ 4294967296) (hls : ∀ l ∈ ls,l.length ≤ 4294967296) : call T 194 [vLs ls] [] = some (vB (ls.all zgC),[]):=by
 rw [ze (fn:=zht) rfl]
 have h:=fun a0 a1 a2 a6 a7 => zmn ls hl hls ls.length 0 a0 a1 a2 a6 a7 (by omega) (by omega)
 simp only [yt,yj] at h
 cases ha : ls.all zgC <;> simp -implicitDefEqProofs only [go_sem,ha] at h <;> simp -implicitDefEqProofs only [go_sem,zht,h]
end AC
namespace AC
open Go Go.A Go.A.Lex
theorem zex {α : Type} {p : α → Bool} {l : List α} (h : l.find? (fun x => !p x) = none) : l.all p = true:=by
 simp only [List.find?_eq_none,yu,Bool.not_eq_false] at h
 simpa [List.all_eq_true] using h
theorem zep {α : Type} {p : α → Bool} {l : List α} {x : α} (h : l.find? (fun x => !p x) = some x) : l.all p = false:=by
 have h1:=List.find?_some h
 have h2:=List.mem_of_find?_eq_some h
 simp only [yu] at h1
 exact List.all_eq_false.2 ⟨x,h2,by simp [h1]⟩
section ends
variable {α : Type} (σ r : List α) (o p q' : α)
theorem zxE : (σ ++ o :: r)[σ.length]? = some o:=by simp
theorem zyA : (σ ++ o :: p :: r)[σ.length + 1]? = some p:=by simp
theorem zxi : (σ ++ o :: p :: q' :: r)[σ.length + 2]? = some q':=by simp
theorem zxv (x : α) : (σ ++ o :: r).set σ.length x = σ ++ x :: r:=by simp [yk]
theorem zw4 (x : α) : (σ ++ o :: p :: r).set (σ.length + 1) x = σ ++ o :: x :: r:=by simp [yk]
theorem zx6 (x : α) : (σ ++ o :: p :: q' :: r).set (σ.length + 2) x = σ ++ o :: p :: x :: r:=by simp [yk]
theorem zvT : (σ ++ r).take σ.length = σ:=by simp
theorem zvF : (σ ++ o :: r).take (σ.length + 1) = σ ++ [o]:=by simp [yv,yh]
theorem zuL : (σ ++ o :: p :: r).take (σ.length + 2) = σ ++ [o,p]:=by simp [yv,yh]
end ends
theorem zzV (n : Nat) : (n + 1 ≤ n) = False:=by simp
theorem zz2 (n : Nat) : (n + 2 ≤ n) = False:=by simp
theorem zzQ (n : Nat) : (n + 3 ≤ n) = False:=by simp
theorem zzm (n : Nat) : (n + 4 ≤ n) = False:=by simp
theorem zzr (n : Nat) : (n + 5 ≤ n) = False:=by simp
theorem zke (n : Nat) : ∀ (a b : List Ob),Obs.lt n (a ++ b) = (Obs.lt n a && Obs.lt n b)
 | [],b => by simp [Obs.lt]
 | x :: a,b => by simp [Obs.lt,zke n a b,Bool.and_assoc]
attribute [go_sem] zxE zyA zxi zxv zw4 zx6 zvT zvF zuL zzV zz2 zzQ zzm zzr zke List.take_left'
end AC
namespace AC
open Go Go.A Go.A.Lex
def zlQ (p : PPhi) : Bool:=(num p.bits && num p.dst) && (zgC p.src && zgC p.args)
def zrL (o : POp) : Bool:=(num o.kind && (num o.bits && (num o.lanes && num o.dst))) && zgC o.args
def zv2 (b : PBlock) : Bool:=(num b.kind && num b.arg) && zgC b.to
def zrg (b : PBlock) : Bool:=b.phis.all zlQ && (b.ops.all zrL && zv2 b)
def zBs (p : PPhi) : Prop:=p.src.length ≤ 4294967296 ∧ p.args.length ≤ 4294967296
def zzU (o : POp) : Prop:=zAf o ∧ o.args.length ≤ 4294967296
structure okB (b : PBlock) : Prop where
 phis : b.phis.length ≤ 4294967296
 ops : b.ops.length ≤ 4294967296
 phi : ∀ p ∈ b.phis,zBs p
 op : ∀ o ∈ b.ops,zzU o
 to : b.to.length ≤ 4294967296
theorem zlO (a : List Int) (ha : a.length ≤ 4294967296) : call T 194 [vL [[eI a]]] [] = some (vB (zgC a),[]):=by
 have:=zhp [a] (by simp) (by simpa using ha)
 simpa only [vLs,yn,yp,rl,yi,ym,yo] using this
theorem zrd (a b : List Int) (ha : a.length ≤ 4294967296) (hb : b.length ≤ 4294967296) : call T 194 [vL [[eI a],[eI b]]] [] = some (vB (zgC a && zgC b),[]):=by
 have:=zhp [a,b] (by simp) (by simpa using ⟨ha,hb⟩)
 simpa only [vLs,yn,yp,rl,yi,ym,yo] using this
section
variable (b : PBlock) (hb : okB b)
include hb
theorem zq5 : ∀ (d k : Nat) (a0 a2 a3 a4 a8 a9 a10 a11 a12 a13 a14 : V),b.phis.length - k = d → k ≤ b.phis.length →
  exec T zcS ⟨[a0,.one (.ptr 0 0 0 0),a2,a3,a4,vL (b.phis.map rp),vI b.phis.length,vI k,a8,a9,a10,a11,a12,a13,a14],[.cells 0 5 [zw b]],0,0⟩ =
   some (match (b.phis.drop k).find? (fun x => !zlQ x) with | none => (.exit 0,⟨[vU,.one (.ptr 0 0 0 0),vU,vU,vU,vU,vU,vU,vU,vU,vU,vU,vU,vU,vU],[.cells 0 5 [zw b]],0,0⟩) | some x => (.ret,⟨[vU,vU,vB false,vU,vU,vU,vU,vU,vU,vU,vU,vU,vU,vU,vU],[.cells 0 5 [zw b],.cells 0 4 [ztZ x]],0,0⟩)):=by
 intro d
 induction d with
 | zero =>
   intro k a0 a2 a3 a4 a8 a9 a10 a11 a12 a13 a14 h1 h2
   have hk : k = b.phis.length:=by omega
   subst hk
   rw [xl zcS rfl,zdP]
   simp -implicitDefEqProofs only [go_sem,yl,yf,yx]
 | succ d ih =>
   intro k a0 a2 a3 a4 a8 a9 a10 a11 a12 a13 a14 h1 h2
   have hk : k < b.phis.length:=by omega
   have hd : b.phis.drop k = b.phis[k] :: b.phis.drop (k + 1):=ya hk
   have ho:=hb.phi _ (yq hk)
   have c1:=zjs b.phis[k].bits b.phis[k].dst
   have c2:=zrd b.phis[k].src b.phis[k].args ho.1 ho.2
   rw [xl zcS rfl,zdP,hd]
   cases e1 : (num b.phis[k].bits && num b.phis[k].dst)
   ·simp -implicitDefEqProofs only [go_sem,e1] at c1 c2
    simp -implicitDefEqProofs only [go_sem,ilt hk,zH hk,rp,c1,c2,zlQ,yc,e1]
   ·cases e2 : (zgC b.phis[k].src && zgC b.phis[k].args)
    ·simp -implicitDefEqProofs only [go_sem,e1,e2] at c1 c2
     simp -implicitDefEqProofs only [go_sem,ilt hk,zH hk,rp,c1,c2,zlQ,yc,e1,e2]
    ·simp -implicitDefEqProofs only [go_sem,e1,e2] at c1 c2
     simp -implicitDefEqProofs only [go_sem,ilt hk,zH hk,rp,c1,c2,zlQ,yc,e1,e2,zd hk hb.phis]
     exact ih (k + 1) _ _ _ _ _ _ _ _ _ _ _ (by omega) (by omega)
theorem zrY : ∀ (d k : Nat) (a0 a2 a3 a4 a5 a6 a7 a8 a9 a13 a14 : V),b.ops.length - k = d → k ≤ b.ops.length →
  exec T zcT ⟨[a0,.one (.ptr 0 0 0 0),a2,a3,a4,a5,a6,a7,a8,a9,vL (b.ops.map ro),vI b.ops.length,vI k,a13,a14],[.cells 0 5 [zw b]],0,0⟩ =
   some (match (b.ops.drop k).find? (fun x => !zrL x) with | none => (.exit 2,⟨[vU,.one (.ptr 0 0 0 0),vU,vU,vU,vU,vU,vU,vU,vU,vU,vU,vU,vU,vU],[.cells 0 5 [zw b]],0,0⟩) | some x => (.ret,⟨[vU,vU,vB false,vU,vU,vU,vU,vU,vU,vU,vU,vU,vU,vU,vU],[.cells 0 5 [zw b],.cells 0 6 [cOp x]],0,0⟩)):=by
 intro d
 induction d with
 | zero =>
   intro k a0 a2 a3 a4 a5 a6 a7 a8 a9 a13 a14 h1 h2
   have hk : k = b.ops.length:=by omega
   subst hk
   rw [xl zcT rfl,zdV]
   simp -implicitDefEqProofs only [go_sem,yl,yf,yx]
 | succ d ih =>
   intro k a0 a2 a3 a4 a5 a6 a7 a8 a9 a13 a14 h1 h2
   have hk : k < b.ops.length:=by omega
   have hd : b.ops.drop k = b.ops[k] :: b.ops.drop (k + 1):=ya hk
   have ho:=hb.op _ (yq hk)
   have c1:=zoI b.ops[k].kind b.ops[k].bits b.ops[k].lanes b.ops[k].dst
   have c2:=zlO b.ops[k].args ho.2
   rw [xl zcT rfl,zdV,hd]
   cases e1 : (num b.ops[k].kind && (num b.ops[k].bits && (num b.ops[k].lanes && num b.ops[k].dst)))
   ·simp -implicitDefEqProofs only [go_sem,e1] at c1 c2
    simp -implicitDefEqProofs only [go_sem,ilt hk,zH hk,ro,c1,c2,zrL,yc,e1]
   ·cases e2 : zgC b.ops[k].args
    ·simp -implicitDefEqProofs only [go_sem,e1,e2] at c1 c2
     simp -implicitDefEqProofs only [go_sem,ilt hk,zH hk,ro,c1,c2,zrL,yc,e1,e2]
    ·simp -implicitDefEqProofs only [go_sem,e1,e2] at c1 c2
     simp -implicitDefEqProofs only [go_sem,ilt hk,zH hk,ro,c1,c2,zrL,yc,e1,e2,zd hk hb.ops]
     exact ih (k + 1) _ _ _ _ _ _ _ _ _ _ _ (by omega) (by omega)
set_option maxRecDepth 10000 in
@[go_sem] theorem zo5 : call T 155 [zk4 b] [] = some (vB (zrg b),[]):=by
  rw [ze (fn:=zbu) rfl]
  have h0:=fun a0 a2 a3 a4 a8 a9 a10 a11 a12 a13 a14 => zq5 b hb b.phis.length 0 a0 a2 a3 a4 a8 a9 a10 a11 a12 a13 a14 (by omega) (by omega)
  have h1:=fun a0 a2 a3 a4 a5 a6 a7 a8 a9 a13 a14 => zrY b hb b.ops.length 0 a0 a2 a3 a4 a5 a6 a7 a8 a9 a13 a14 (by omega) (by omega)
  have c1:=zjs b.kind b.arg
  have c2:=zlO b.to hb.to
  simp only [yt,yj] at h0 h1
  cases e1 : b.phis.find? (fun x => !zlQ x) with
  | some x =>
    have a1:=zep e1
    simp -implicitDefEqProofs only [go_sem,e1] at h0
    simp -implicitDefEqProofs only [go_sem,zbu,h0,zrg,a1]
  | none =>
  have a1:=zex e1
  cases e2 : b.ops.find? (fun x => !zrL x) with
  | some x =>
    have a2:=zep e2
    simp -implicitDefEqProofs only [go_sem,e1,e2] at h0 h1
    simp -implicitDefEqProofs only [go_sem,zbu,h0,h1,zrg,a1,a2]
  | none =>
  have a2:=zex e2
  simp -implicitDefEqProofs only [go_sem,e1,e2] at h0 h1
  cases e3 : (num b.kind && num b.arg)
  ·simp -implicitDefEqProofs only [go_sem,e3] at c1 c2
   simp -implicitDefEqProofs only [go_sem,zbu,h0,h1,c1,c2,zrg,zv2,a1,a2,e3]
  ·simp -implicitDefEqProofs only [go_sem,e3] at c1 c2
   simp -implicitDefEqProofs only [go_sem,zbu,h0,h1,c1,c2,zrg,zv2,a1,a2,e3]
end
@[go_sem] theorem zlI (b : PBlock) (hb : okB b) (σ : zb) (hσ : Obs.lt σ.length σ = true) : call T 154 [zk4 b] σ = some (vB (!zrg b),σ):=by
  rw [ze (fn:=zg9) rfl]
  have h:=zo5 b hb
  simp -implicitDefEqProofs only [go_sem] at h
  simp -implicitDefEqProofs only [go_sem,zg9,h,hσ]
structure okF (f : PFunc) : Prop where
 params : f.params.length ≤ 4294967296
 blocks : f.blocks.length ≤ 4294967296
 block : ∀ b ∈ f.blocks,okB b
 small : (f.blocks.map fun b => b.phis.length + b.ops.length).sum ≤ 4294967296
def zky (f : PFunc) : Nat:=f.blocks.length + (f.blocks.map fun b => b.phis.length + b.ops.length).sum
theorem zrn (l : List Nat) : ∀ k,(l.take k).sum ≤ l.sum:=by
 induction l with
 | nil => simp
 | cons x r ih =>
   intro k
   cases k with
   | zero => simp
   | succ k =>
     simp only [ys,yy]
     have:=ih k
     omega
theorem zoS (l : List Nat) (k : Nat) (hk : k < l.length) : (l.take (k + 1)).sum = (l.take k).sum + l[k]:=by
 induction l generalizing k with
 | nil => simp at hk
 | cons x r ih =>
   cases k with
   | zero => simp
   | succ k =>
     simp only [ys,yy,List.getElem_cons_succ]
     rw [ih k (by simpa using hk)]
     omega
theorem zwb (f : PFunc) (hf : okF f) : ∀ (d k : Nat) (a0 a1 a2 a4 a8 : V),f.blocks.length - k = d → k ≤ f.blocks.length →
  exec T ze8 ⟨[a0,a1,a2,vI ((f.blocks.length + ((f.blocks.map fun b => b.phis.length + b.ops.length).take k).sum : Nat) : Int),a4,vL (f.blocks.map rb),vI f.blocks.length,vI k,a8],[.cells 0 3 [zbI f]],0,0⟩ =
   some (.exit 0,⟨[vU,vU,vU,vI (zky f : Int),vU,vU,vU,vU,vU],[.cells 0 3 [zbI f]],0,0⟩):=by
 intro d
 induction d with
 | zero =>
   intro k a0 a1 a2 a4 a8 h1 h2
   have hk : k = f.blocks.length:=by omega
   subst hk
   rw [xl ze8 rfl,zg1]
   have e : (f.blocks.map fun b => b.phis.length + b.ops.length).take f.blocks.length = f.blocks.map fun b => b.phis.length + b.ops.length:=yh (by simp)
   simp -implicitDefEqProofs only [go_sem,yl,e,zky]
 | succ d ih =>
   intro k a0 a1 a2 a4 a8 h1 h2
   have hk : k < f.blocks.length:=by omega
   have hk' : k < (f.blocks.map fun b => b.phis.length + b.ops.length).length:=by simpa using hk
   have e:=zoS (f.blocks.map fun b => b.phis.length + b.ops.length) k hk'
   have e2:=zrn (f.blocks.map fun b => b.phis.length + b.ops.length) (k + 1)
   have e3:=hf.small
   have e4:=hf.blocks
   simp only [List.getElem_map] at e
   have w1 : Go.IntKind.i64.wrap ((f.blocks[k].phis.length : Int) + (f.blocks[k].ops.length : Int)) = ((f.blocks[k].phis.length + f.blocks[k].ops.length : Nat) : Int):=by
    rw [wrap_i64] <;> omega
   have w2 : Go.IntKind.i64.wrap (((f.blocks.length + ((f.blocks.map fun b => b.phis.length + b.ops.length).take k).sum : Nat) : Int) + ((f.blocks[k].phis.length + f.blocks[k].ops.length : Nat) : Int)) = ((f.blocks.length + ((f.blocks.map fun b => b.phis.length + b.ops.length).take (k + 1)).sum : Nat) : Int):=by
    rw [wrap_i64] <;> omega
   rw [xl ze8 rfl,zg1]
   simp -implicitDefEqProofs only [go_sem,ilt hk,zH hk,rb,w1,w2,zd hk hf.blocks]
   exact ih (k + 1) _ _ _ _ _ (by omega) (by omega)
@[go_sem] theorem znf (f : PFunc) (hf : okF f) : call T 151 [zgP f] [] = some (vI (zky f : Int),[]):=by
  rw [ze (fn:=ziO) rfl]
  have h:=fun a0 a1 a2 a4 a8 => zwb f hf f.blocks.length 0 a0 a1 a2 a4 a8 (by omega) (by omega)
  simp only [List.take_zero,List.sum_nil,Nat.add_zero,yj] at h
  simp -implicitDefEqProofs only [go_sem] at h
  simp -implicitDefEqProofs only [go_sem,ziO,h]
def zn2 (f : PFunc) : Bool :=
 !(decide (f.blocks.length < 1) || (decide (64 < f.blocks.length) || (decide (16 < f.params.length) || (decide (512 < zky f) || (!num f.ret || !f.params.all num))))) && f.blocks.all zrg
@[go_sem] theorem zoZ (f : PFunc) (hf : okF f) : call T 105 [zgP f] [] = some (vB (zn2 f),[]):=by
  rw [ze (fn:=zcz) rfl]
  have hs:=znf f hf
  have hi:=zoU f.ret
  have hp:=zdM f.params hf.params
  have hc:=zf5 f.blocks (fun b => !zrg b) 154 [] [] [.cells 0 3 [zbI f]] hf.blocks (fun x hx => by
   have:=zlI x (hf.block x hx) [.cells 0 3 [zbI f]] rfl
   simp -implicitDefEqProofs only [go_sem] at this
   simp -implicitDefEqProofs only [go_sem,this])
  have hp0 : f.params.length ≤ 4294967296:=hf.params
  simp -implicitDefEqProofs only [go_sem] at hs hi hc hp
  by_cases c1 : f.blocks.length < 1
  ·have c1' : (f.blocks.length : Int) < 1:=by omega
   simp -implicitDefEqProofs only [go_sem,zcz,zn2,c1,c1']
  have c1' : ¬ (f.blocks.length : Int) < 1:=by omega
  by_cases c2 : 64 < f.blocks.length
  ·have c2' : (64 : Int) < (f.blocks.length : Int):=by omega
   simp -implicitDefEqProofs only [go_sem,zcz,zn2,c1,c1',c2,c2']
  have c2' : ¬ (64 : Int) < (f.blocks.length : Int):=by omega
  by_cases c3 : 16 < f.params.length
  ·have c3' : (16 : Int) < (f.params.length : Int):=by omega
   simp -implicitDefEqProofs only [go_sem,zcz,zn2,c1,c1',c2,c2',c3,c3']
  have c3' : ¬ (16 : Int) < (f.params.length : Int):=by omega
  by_cases c4 : 512 < zky f
  ·have c4' : (512 : Int) < (zky f : Int):=by omega
   simp -implicitDefEqProofs only [go_sem,zcz,zn2,c1,c1',c2,c2',c3,c3',hs,c4,c4']
  have c4' : ¬ (512 : Int) < (zky f : Int):=by omega
  cases c5 : num f.ret
  ·simp -implicitDefEqProofs only [go_sem,c5] at hi
   simp -implicitDefEqProofs only [go_sem,zcz,zn2,c1,c1',c2,c2',c3,c3',hs,c4,c4',hi,c5]
  cases c6 : f.params.all num
  ·simp -implicitDefEqProofs only [go_sem,c5,c6] at hi hp
   simp -implicitDefEqProofs only [go_sem,zcz,zn2,c1,c1',c2,c2',c3,c3',hs,c4,c4',hi,hp,c5,c6]
  simp -implicitDefEqProofs only [go_sem,c5,c6] at hi hp
  simp -implicitDefEqProofs only [go_sem,zcz,zn2,c1,c1',c2,c2',c3,c3',hs,c4,c4',hi,hp,c5,c6,hc,zj6]
end AC
namespace AC
open Go Go.A Go.A.Lex
theorem ztO (a b : List Int) (hn : a.length = b.length) (hl : a.length ≤ 4294967296) : ∀ (d k : Nat) (a2 a4 a5 a6 : V),a.length - k = d → k ≤ a.length →
  exec T zL ⟨[vIs a,vIs b,a2,vI k,a4,a5,a6],[],0,0⟩ = some (if a.drop k = b.drop k then (.exit 0,⟨[vU,vU,vU,vU,vU,vU,vU],[],0,0⟩) else (.ret,⟨[vU,vU,vB false,vU,vU,vU,vU],[],0,0⟩)):=by
 intro d
 induction d with
 | zero =>
   intro k a2 a4 a5 a6 h1 h2
   have hk : k = a.length:=by omega
   subst hk
   have e : a.drop a.length = b.drop a.length:=by rw [yf,hn,yf]
   rw [xl zL rfl,zan,if_pos e]
   simp -implicitDefEqProofs only [go_sem,yl,yd]
 | succ d ih =>
   intro k a2 a4 a5 a6 h1 h2
   have hk : k < a.length:=by omega
   have hkb : k < b.length:=by omega
   have hd : a.drop k = a[k] :: a.drop (k + 1):=ya hk
   have hdb : b.drop k = b[k] :: b.drop (k + 1):=ya hkb
   have:=ih (k + 1) vU vU vU vU (by omega) (by omega)
   rw [xl zL rfl,zan,hd,hdb]
   simp -implicitDefEqProofs only [go_sem] at this
   by_cases c : a[k] = b[k]
   ·simp -implicitDefEqProofs only [go_sem,ilt hk,zH hk,zH hkb,ri,yd,zd hk hl,c,this,List.cons.injEq]
   ·simp -implicitDefEqProofs only [go_sem,ilt hk,zH hk,zH hkb,ri,yd,c,List.cons.injEq,false_and]
theorem zc8 (a b : List Int) (hl : a.length ≤ 4294967296) : call T 22 [vIs a,vIs b] [] = some (vB (decide (a = b)),[]):=by
 rw [ze (fn:=zC) rfl]
 by_cases hn : a.length = b.length
 ·have h:=fun a2 a4 a5 a6 => ztO a b hn hl a.length 0 a2 a4 a5 a6 (by omega) (by omega)
  simp only [yj,yt] at h
  have hi : (a.length : Int) = (b.length : Int):=by omega
  by_cases c : a = b
  ·simp -implicitDefEqProofs only [go_sem,c] at h
   simp -implicitDefEqProofs only [go_sem,zC,h,c,yd]
  ·simp -implicitDefEqProofs only [go_sem,c] at h
   simp -implicitDefEqProofs only [go_sem,zC,h,c,yd,hi]
 ·have hi : ¬ (a.length : Int) = (b.length : Int):=by omega
  have c : ¬ a = b:=fun h => hn (by rw [h])
  simp -implicitDefEqProofs only [go_sem,zC,c,yd,hi]
end AC
namespace AC
open Go Go.A Go.A.Lex
set_option maxHeartbeats 8000000
section
variable (o : POp) (hs : zeR o.bits o.lanes = true) (ho : zAf o)
include hs
include ho
end
end AC
namespace AC
open Go Go.A Go.A.Lex
mutual
theorem zs3 {n m : Nat} (h : n ≤ m) : ∀ c : C,c.lt n = true → c.lt m = true
 | .f _,_ => rfl
 | .ap t _ _,e => by simp only [C.lt,decide_eq_true_eq] at e ⊢; omega
 | .ptr id _ _ _,e => by simp only [C.lt,decide_eq_true_eq] at e ⊢; omega
 | .fp _ _,_ => rfl
 | .own id _ _ _,e => by simp only [C.lt,decide_eq_true_eq] at e ⊢; omega
 | .map id,e => by simp only [C.lt,decide_eq_true_eq] at e ⊢; omega
 | .fn _ a b,e => by
   simp only [C.lt,yb] at e ⊢
   exact ⟨zcM h a e.1,zcM h b e.2⟩
 | .un,_ => rfl
theorem zcM {n m : Nat} (h : n ≤ m) : ∀ cs : List C,C.lts n cs = true → C.lts m cs = true
 | [],_ => by simp only [C.lts]
 | c :: cs,e => by
   simp only [C.lts,yb] at e ⊢
   exact ⟨zs3 h c e.1,zcM h cs e.2⟩
end
mutual
theorem zsF {n m : Nat} (h : n ≤ m) : ∀ v : V,v.lt n = true → v.lt m = true
 | .one c,e => by simp only [V.lt] at e ⊢; exact zs3 h c e
 | .agg cs,e => by simp only [V.lt] at e ⊢; exact zcM h cs e
 | .tup vs,e => by simp only [V.lt] at e ⊢; exact zpY h vs e
theorem zpY {n m : Nat} (h : n ≤ m) : ∀ vs : List V,V.lts n vs = true → V.lts m vs = true
 | [],_ => by simp only [V.lts]
 | v :: vs,e => by
   simp only [V.lts,yb] at e ⊢
   exact ⟨zsF h v e.1,zpY h vs e.2⟩
end
theorem znK {n m : Nat} (h : n ≤ m) : ∀ es : List (List C),C.ltss n es = true → C.ltss m es = true
 | [],_ => by simp only [C.ltss]
 | c :: cs,e => by
   simp only [C.ltss,yb] at e ⊢
   exact ⟨zcM h c e.1,znK h cs e.2⟩
theorem zqJ {n m : Nat} (h : n ≤ m) : ∀ es : List (Int × V),C.ltm n es = true → C.ltm m es = true
 | [],_ => by simp only [C.ltm]
 | c :: cs,e => by
   simp only [C.ltm,yb] at e ⊢
   exact ⟨zsF h c.2 e.1,zqJ h cs e.2⟩
theorem zxO {n m : Nat} (h : n ≤ m) : ∀ o : Ob,o.lt n = true → o.lt m = true
 | .cells _ _ es,e => by simp only [Ob.lt] at e ⊢; exact znK h es e
 | .tok _ _,_ => rfl
 | .mp es,e => by simp only [Ob.lt] at e ⊢; exact zqJ h es e
theorem zmt {n m : Nat} (h : n ≤ m) : ∀ os : List Ob,Obs.lt n os = true → Obs.lt m os = true
 | [],_ => by simp only [Obs.lt]
 | o :: os,e => by
   simp only [Obs.lt,yb] at e ⊢
   exact ⟨zxO h o e.1,zmt h os e.2⟩
theorem zdw {σ : zb} {k : Nat} {o : Ob} (h : σ[k]? = some o) (r : zb) : (σ ++ r)[k]? = some o:=by
 have : k < σ.length:=(ye.1 h).1
 rw [List.getElem?_append_left this,h]
theorem zeW {σ : zb} {k : Nat} {o : Ob} (h : σ[k]? = some o) (j : Nat) : (k < σ.length + j) = True:=by
 have : k < σ.length:=(ye.1 h).1
 simp; omega
theorem zfk {σ : zb} {k : Nat} {o : Ob} (h : σ[k]? = some o) : (k < σ.length) = True:=by
 have : k < σ.length:=(ye.1 h).1
 simp; omega
theorem zBW (n : Nat) : (n < n + 1) = True:=by simp
theorem zBY (n : Nat) : (n < n + 2) = True:=by simp
theorem zBC (n : Nat) : (n < n + 3) = True:=by simp
theorem zBE (n : Nat) : (n < n + 4) = True:=by simp
theorem zBJ (n : Nat) : (n + 1 < n + 2) = True:=by simp
theorem zBK (n : Nat) : (n + 1 < n + 3) = True:=by simp
theorem zBL (n : Nat) : (n + 2 < n + 3) = True:=by simp
theorem zBZ (n : Nat) : (n + 3 < n + 4) = True:=by simp
theorem zBS (n : Nat) : (n + 2 < n + 4) = True:=by simp
theorem zBU (n : Nat) : (n + 1 < n + 4) = True:=by simp
theorem zBF (n k : Nat) : (n + k ≤ n + k) = True:=by simp
theorem zBx (n : Nat) : (n + 2 ≤ n + 1) = False:=by simp
theorem zBM (n : Nat) : (n + 3 ≤ n + 1) = False:=by simp
theorem zBv (n : Nat) : (n + 3 ≤ n + 2) = False:=by simp
theorem zB0 (n : Nat) : (n + 4 ≤ n + 1) = False:=by simp
theorem zBB (n : Nat) : (n + 4 ≤ n + 2) = False:=by simp
theorem zBI (n : Nat) : (n + 4 ≤ n + 3) = False:=by simp
attribute [go_sem] zBW zBY zBC zBE zBJ zBK zBL zBZ zBS zBU zBF zBx zBM zBv zB0 zBB zBI
def Ok (σ : zb) : Prop:=Obs.lt σ.length σ = true
theorem Ok.up {σ : zb} (h : Ok σ) (k : Nat) : Obs.lt (σ.length + k) σ = true:=zmt (Nat.le_add_right _ _) _ h
theorem Ok.at {σ : zb} (h : Ok σ) : Obs.lt σ.length σ = true:=h
theorem Ok.app {σ r : zb} (h : Ok σ) (h2 : Obs.lt (σ.length + r.length) r = true) : Ok (σ ++ r):=by
 unfold Ok
 rw [List.length_append,zke,Ok.up h,h2]
 rfl
end AC
namespace AC
open Go Go.A Go.A.Lex
theorem zq7 {e : List C} {k : Nat} (c : C) (h : k < e.length) : e.take k ++ c :: e.drop (k + 1) = e.set k c:=by
 rw [List.set_eq_take_append_cons_drop,if_pos h]
theorem zvQ {a b : Nat} (h : a < b) : (a + 1 ≤ b) = True:=by simp; omega
end AC
namespace AC
open Go Go.A Go.A.Lex
set_option maxHeartbeats 4000000
end AC
namespace AC
def tr (t : List Int) (a : Int) : Int:=t.getD a.toNat (-2)
def zT (t : List Int) : Nat → Int → Int → Option Int
 | 0,_,_ => none
 | r + 1,n,a => if a < 0 then some (-1) else if (t.length : Int) ≤ a then some (-1) else if tr t a = -1 then some n else zT t r (n + 1) (tr t a)
def zA (t : List Int) (a : Int) : Int:=(zT t t.length 0 a).getD (-1)
def zbf (t : List Int) : Nat → Nat → List Int → Option Nat
 | _,n,[] => some n
 | k,n,x :: r => if x = -2 then zbf t (k + 1) n r else if zA t k < 0 then none else zbf t (k + 1) (if x = -1 then n + 1 else n) r
def zfD (t : List Int) : Bool:=zbf t 0 0 t == some 1
def inS (t : List Int) (l : List Int) : Bool:=zfD t && !l.any fun a => decide (zA t a < 0)
def zgp (t : List Int) : Nat → Int → Int → Int
 | 0,a,_ => a
 | r + 1,a,b => if a = b then a else if zA t b ≤ zA t a then zgp t r (tr t a) b else zgp t r a (tr t b)
def zt2 (t : List Int) (a b : Int) : Int:=if inS t [a,b] = true then zgp t (zA t a + zA t b).toNat a b else -2
def zia (t : List Int) (a b : Int) : Bool:=inS t [a,b] && decide (zt2 t a b = a)
def inR (n : Nat) (a : Int) : Bool:=decide (0 ≤ a) && decide (a < n)
def zlU (t at' : List Int) : Nat → Int → Int → Option Int
 | 0,_,_ => none
 | r + 1,a,b => if inR t.length a && (inR at'.length a && inR at'.length b) then (if tr at' b < tr at' a then zlU t at' r (tr t a) b else some a) else none
def zpQ (t at' : List Int) (K : Nat) : Nat → Int → Int → Option Int
 | 0,_,_ => none
 | r + 1,a,b => if a = b then some a else match zlU t at' K a b with
   | none => none
   | some a' => match zlU t at' K b a' with
     | none => none
     | some b' => zpQ t at' K r a' b'
def zjR (t at' : List Int) (K : Nat) : List Int → Int → Option Int
 | [],b => some b
 | p :: r,b => if inR t.length p = true then (if tr t p = -2 then zjR t at' K r b else if b = -2 then zjR t at' K r p else match zpQ t at' K K b p with
   | none => none
   | some c => zjR t at' K r c) else none
def zoJ (pred : List (List Int)) (t at' : List Int) (K : Nat) : List Int → Option (Option (Int × Int))
 | [] => some none
 | x :: r => if inR t.length x = true then (match zjR t at' K (pred.getD x.toNat []) (-2) with
   | none => none
   | some b => if tr t x = b then zoJ pred t at' K r else some (some (x,b))) else none
def zeJ (pred : List (List Int)) (at' : List Int) (K : Nat) (tail : List Int) : Nat → List Int → Option (List Int)
 | 0,_ => none
 | r + 1,t => match zoJ pred t at' K tail with
   | none => none
   | some none => some t
   | some (some (x,b)) => zeJ pred at' K tail r (t.set x.toNat b)
theorem zic {pred : List (List Int)} {at' : List Int} {K : Nat} {tail : List Int} : ∀ {r : Nat} {t t' : List Int},zeJ pred at' K tail r t = some t' → t'.length = t.length
 | 0,_,_,h => by simp [zeJ] at h
 | r + 1,t,t',h => by
   simp only [zeJ] at h
   split at h
   ·cases h
   ·injection h with h; rw [h]
   ·rw [zic h]; simp
def zdX : Nat → List Int → List Int → List Int
 | _,[],at' => at'
 | i,x :: r,at' => zdX (i + 1) r (at'.set x.toNat (i : Int))
theorem zdZ : ∀ (l : List Int) (i : Nat) (a : List Int),(zdX i l a).length = a.length
 | [],_,_ => rfl
 | x :: r,i,a => by rw [zdX,zdZ r]; simp
def zh5 (n root : Nat) : List Int:=(yg n (-2 : Int)).set root root
def at0 (n : Nat) (order : List Int) : List Int:=zdX 0 order (yg n 0)
def scan (seen : List Bool) : List Int → Nat → Option (Int × Nat)
 | [],_ => none
 | y :: r,j => if seen.getD y.toNat false = true then scan seen r (j + 1) else some (y,j + 1)
structure DF where
 seen : List Bool
 next : List Nat
 out : List Int
 stk : List Int
def zui (succ : List (List Int)) (x : Int) : Nat:=(succ.getD x.toNat []).length
def zdN (succ : List (List Int)) (d : DF) (x : Int) : Option (Int × Nat):=scan d.seen ((succ.getD x.toNat []).drop (d.next.getD x.toNat 0)) (d.next.getD x.toNat 0)
def dfs (succ : List (List Int)) : Nat → DF → Option (List Int)
 | 0,_ => none
 | k + 1,d => match d.stk with
   | [] => none
   | x :: s => match zdN succ d x with
     | some (y,j) => dfs succ k ⟨d.seen.set y.toNat true,d.next.set x.toNat j,d.out,y :: x :: s⟩
     | none => match s with
       | [] => some (d.out ++ [x])
       | _ :: _ => dfs succ k ⟨d.seen,d.next.set x.toNat (zui succ x),d.out ++ [x],s⟩
structure DInv (succ : List (List Int)) (d : DF) : Prop where
 seen : d.seen.length = 64
 next : d.next.length = 64
 le : ∀ X,X < succ.length → d.next.getD X 0 ≤ (succ.getD X []).length
 stk : ∀ x ∈ d.stk,0 ≤ x ∧ x < (succ.length : Int)
theorem zuG {seen : List Bool} : ∀ {l : List Int} {k : Nat} {y : Int} {j : Nat},scan seen l k = some (y,j) → k < j ∧ j ≤ k + l.length ∧ y ∈ l
 | [],_,_,_,h => by simp [scan] at h
 | z :: r,k,y,j,h => by
   simp only [scan] at h
   split at h
   ·have:=zuG h
    simp only [List.length_cons,List.mem_cons]
    exact ⟨by omega,by omega,.inr this.2.2⟩
   ·simp only [Option.some.injEq,Prod.mk.injEq] at h
    obtain ⟨rfl,rfl⟩:=h
    simp
def znq : List Bool:=yg 64 false
def zlf : List Nat:=yg 64 0
def zpz (root : Int) : DF:=⟨znq.set root.toNat true,zlf,[],[root]⟩
def zq4 (i : Int) (out : List (List Int)) (x : Int) : List (List Int):=out.set x.toNat (out.getD x.toNat [] ++ [i])
theorem zmQ (i : Int) (out : List (List Int)) (x : Int) : (zq4 i out x).length = out.length:=by simp [zq4]
theorem ze7 (i : Int) : ∀ (l : List Int) (out : List (List Int)),(l.foldl (zq4 i) out).length = out.length
 | [],_ => rfl
 | x :: r,out => by rw [List.foldl_cons,ze7 i r,zmQ]
def zbb : Nat → List (List Int) → List (List Int) → List (List Int)
 | _,[],out => out
 | i,l :: r,out => zbb (i + 1) r (l.foldl (zq4 i) out)
def zam (succ : List (List Int)) : List (List Int):=zbb 0 succ (yg succ.length [])
theorem zdW : ∀ (l : List (List Int)) (i : Nat) (out : List (List Int)),(zbb i l out).length = out.length
 | [],_,_ => rfl
 | x :: r,i,out => by rw [zbb,zdW r,ze7]
theorem zgl (succ : List (List Int)) : (zam succ).length = succ.length:=by rw [zam,zdW]; simp
def zkN (succ : List (List Int)) : Prop:=succ.length ≤ 4294967296 ∧ ∀ l ∈ succ,l.length ≤ 4294967296
def zav (n : Int) : Int → List Int → Bool
 | _,[] => true
 | last,x :: r => if x ≤ last ∨ n ≤ x then false else zav n x r
def rising (l : List Int) (n : Int) : Bool:=zav n (-1) l
def zdb (succ : List (List Int)) : Bool:=!(decide (succ.length < 1) || (decide (64 < succ.length) || succ.any fun l => !rising l succ.length))
def zwU (succ pred : List (List Int)) : Bool:=zdb succ && decide (zam succ = pred)
def zqX (k : Int) : Int:=if k = 0 ∨ k = 3 then 0 else if k = 1 then 1 else if k = 2 then 2 else -1
def ztv (n k : Int) : Bool:=decide (k < 1) || decide (n ≤ k)
theorem zaF {α : Type} {l : List α} {i : Nat} (v d : α) (h : i < l.length) : (l.set i v).getD i d = v:=by simp [h]
theorem getD_set_ne {α : Type} {l : List α} {i j : Nat} (v d : α) (h : i ≠ j) : (l.set i v).getD j d = l.getD j d:=by simp [List.getElem?_set_ne h]
end AC
